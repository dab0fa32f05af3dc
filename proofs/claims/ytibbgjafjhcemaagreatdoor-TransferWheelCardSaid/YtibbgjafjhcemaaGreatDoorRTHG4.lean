/- Part of a proof by an abstract machine for the program's code: lemmas, without conditions of their own beyond those that each states. (Made smaller by a program: short names, no comments.) -/
import Derived.Test.YtibbgjafjhcemaaGreatDoorRTHG3
set_option linter.unusedVariables false
set_option linter.unusedSimpArgs false
set_option maxRecDepth 100000
set_option maxHeartbeats 2000000
namespace Go.Proofs.YtibbgjafjhcemaaGreatDoor.Cul
open Go Go.RowKit
def iz (g:Bool) (s:ByteArray):PV:= .ag [bv g,sv s]
def cC (g:Bool) (s:ByteArray):Bool:=if s.size=0 then !g else decide ((s[0]?).map (·.toNat)≠some 0)
noncomputable def eU:List PV→Option RV:=bJ (fun _:Bool×ByteArray=>True) (fun x=>[iz x.1 x.2]) (fun x=>one (bv (cC x.1 x.2)))
noncomputable def Fp:List PV→Option RV:=bJ (fun s:ByteArray=>s.size<2^30) (fun s=>[sv s]) (fun s=>one (nat (dg (4294967296:Nat) (bI s))))
noncomputable def GW:List PV→Option RV:=bJ (fun x:Nat×Nat=>0<x.2∧(dg (4294967296:Nat) x.1).length<2^39∧(dg (4294967296:Nat) x.2).length<2^39) (fun x=>[nat (dg (4294967296:Nat) x.1),nat (dg (4294967296:Nat) x.2)]) (fun x=>one (.aQ [tX x.1 x.2,nat (dg (4294967296:Nat) (x.1%x.2))]))
noncomputable def Co:List PV→Option RV:=bJ (fun l:List Nat=>aZ (4294967296:Nat) l∧l.length≤2) (fun l=>[nat l]) (fun l=>one (bB (val (4294967296:Nat) l)))
noncomputable def DU:List PV→Option RV:=bJ (fun n:Nat=>n<2^64) (fun n=>[bB n]) (fun n=>one (nat (dg (4294967296:Nat) n)))
noncomputable def n7:List PV→Option RV:=bJ (fun x:List Nat×Bool=>x.1.length<2^40∧aZ (4294967296:Nat) x.1) (fun x=>[nat x.1,bv x.2]) (fun x=>one (.ag (zc (if x.2 then -(val (4294967296:Nat) x.1:Int) else (val (4294967296:Nat) x.1:Int)))))
noncomputable def t11:Cl:=bM [(94,eU),(99,Fp),(186,GW),(187,Co),(142,DU),(101,n7)]
theorem Xy (k:Nat) (g:Bool) (s:ByteArray):aA MD t3 k 94 [iz g s] [.c true]=
 some (RV.mk (PV.lit (Value.bool !g)) none,[(s.toList==(ByteArray.mk #[]).toList)=true]):=by kernel_rfl
theorem Xz (k b:Nat) (g r:Bool) (s:ByteArray):aA MD t3 k 94 [iz g s] [.c false, .i 11 b, .c r]=
 some (RV.mk (PV.lit (Value.bool r)) none,[(s.toList==(ByteArray.mk #[]).toList)=false,eu s (0:Int) (↑b:Int),((↑b:Int) !=(0:Int))=r]):=by kernel_rfl
theorem TI (k na nb nx ny n m:Nat) (g h:Bool) (s t:ByteArray) (as' bs' xs ys:List PV) (e:Bool) (u:ByteArray) (w:PV):aA MD t11 k 141 [iz g s,iz h t] [.r (one (bv true)), .r (one (bv true)), .r (one (.sl 1 na as')), .r (one (.sl 1 nb bs')), .l (.exit 0) ⟨[(4, .bp 4 0),(5, .pv (.sl 1 nx xs)),(6, .pv (.sl 1 ny ys)),(38, .pv (bv false))],[(4,[bv false,sv ⟨#[]⟩])],[],[]⟩, .c true, .r (one (iz e u))]=
 some (RV.mk (PV.ag [PV.lit (Value.bool e),PV.lit (Value.string u)]) none,[aa t11 94 [PV.ag [PV.lit (Value.bool g),PV.lit (Value.string s)]] (RV.mk (PV.lit (Value.bool true)) none),aa t11 94 [PV.ag [PV.lit (Value.bool h),PV.lit (Value.string t)]] (RV.mk (PV.lit (Value.bool true)) none),aa t11 99 [PV.lit (Value.string s)] (RV.mk (PV.sl 1 na as') none),aa t11 99 [PV.lit (Value.string t)] (RV.mk (PV.sl 1 nb bs') none),aX MD t11 k (141:Nat) (0:Nat) (St.mk [(4,AV.bp 4 0),(5,AV.pv (PV.sl 1 na as')),(6,AV.pv (PV.sl 1 nb bs'))] [(4,[PV.lit (Value.bool false),PV.lit (Value.string (ByteArray.mk #[]))])] [] []) (Xt.exit 0) (St.mk [(4,AV.bp 4 0),(5,AV.pv (PV.sl 1 nx xs)),(6,AV.pv (PV.sl 1 ny ys)),(38,AV.pv (PV.lit (Value.bool false)))] [(4,[PV.lit (Value.bool false),PV.lit (Value.string (ByteArray.mk #[]))])] [] []),((↑ny:Int)==(0:Int))=true,aa t11 101 [PV.sl 1 nx xs,PV.lit (Value.bool false)] (RV.mk (PV.ag [PV.lit (Value.bool e),PV.lit (Value.string u)]) none)]):=by kernel_rfl
theorem TJ (k na nb nx ny n m:Nat) (g h:Bool) (s t:ByteArray) (as' bs' xs ys:List PV) (e:Bool) (u:ByteArray) (w:PV) (n0 m0:Nat):aA MD t11 k 141 [iz g s,iz h t] [.r (one (bv true)), .r (one (bv true)), .r (one (.sl 1 na as')), .r (one (.sl 1 nb bs')), .l (.exit 0) ⟨[(4, .bp 4 0),(5, .pv (.sl 1 nx xs)),(6, .pv (.sl 1 ny ys)),(38, .pv (bv false))],[(4,[bv false,sv ⟨#[]⟩])],[],[]⟩, .c false, .r (one (bB n0)), .r (one (bB m0)), .l (.exit 2) ⟨[(4, .bp 4 0),(9, .pv (bB n)),(10, .pv (bB m)),(57, .pv (bv false))],[(4,[bv false,sv ⟨#[]⟩])],[],[]⟩, .r (one w), .r (one (iz e u))]=
 some (RV.mk (PV.ag [PV.lit (Value.bool e),PV.lit (Value.string u)]) none,[aa t11 94 [PV.ag [PV.lit (Value.bool g),PV.lit (Value.string s)]] (RV.mk (PV.lit (Value.bool true)) none),aa t11 94 [PV.ag [PV.lit (Value.bool h),PV.lit (Value.string t)]] (RV.mk (PV.lit (Value.bool true)) none),aa t11 99 [PV.lit (Value.string s)] (RV.mk (PV.sl 1 na as') none),aa t11 99 [PV.lit (Value.string t)] (RV.mk (PV.sl 1 nb bs') none),aX MD t11 k (141:Nat) (0:Nat) (St.mk [(4,AV.bp 4 0),(5,AV.pv (PV.sl 1 na as')),(6,AV.pv (PV.sl 1 nb bs'))] [(4,[PV.lit (Value.bool false),PV.lit (Value.string (ByteArray.mk #[]))])] [] []) (Xt.exit 0) (St.mk [(4,AV.bp 4 0),(5,AV.pv (PV.sl 1 nx xs)),(6,AV.pv (PV.sl 1 ny ys)),(38,AV.pv (PV.lit (Value.bool false)))] [(4,[PV.lit (Value.bool false),PV.lit (Value.string (ByteArray.mk #[]))])] [] []),((↑ny:Int)==(0:Int))=false,aa t11 187 [PV.sl 1 nx xs] (RV.mk (PV.lit (Value.int IntKind.u64 (↑n0:Int))) none),aa t11 187 [PV.sl 1 ny ys] (RV.mk (PV.lit (Value.int IntKind.u64 (↑m0:Int))) none),aX MD t11 k (141:Nat) (1:Nat) (St.mk [(4,AV.bp 4 0),(9,AV.pv (PV.lit (Value.int IntKind.u64 (↑n0:Int)))),(10,AV.pv (PV.lit (Value.int IntKind.u64 (↑m0:Int))))] [(4,[PV.lit (Value.bool false),PV.lit (Value.string (ByteArray.mk #[]))])] [] []) (Xt.exit 2) (St.mk [(4,AV.bp 4 0),(9,AV.pv (PV.lit (Value.int IntKind.u64 (↑n:Int)))),(10,AV.pv (PV.lit (Value.int IntKind.u64 (↑m:Int)))),(57,AV.pv (PV.lit (Value.bool false)))] [(4,[PV.lit (Value.bool false),PV.lit (Value.string (ByteArray.mk #[]))])] [] []),aa t11 142 [PV.lit (Value.int IntKind.u64 (↑n:Int))] (RV.mk w none),aa t11 101 [w,PV.lit (Value.bool false)] (RV.mk (PV.ag [PV.lit (Value.bool e),PV.lit (Value.string u)]) none)]):=by kernel_rfl
theorem TP (k nx ny nr:Nat) (xs ys rs:List PV) (q:PV):ay MD t11 k 141 0 ⟨[(4, .bp 4 0),(5, .pv (.sl 1 nx xs)),(6, .pv (.sl 1 ny ys))],[(4,[bv false,sv ⟨#[]⟩])],[],[]⟩ [.c true, .r (one (.aQ [q, .sl 1 nr rs]))]=
 some ((Xt.normal,St.mk [(4,AV.bp 4 0),(5,AV.pv (PV.sl 1 ny ys)),(6,AV.pv (PV.sl 1 nr rs))] [(4,[PV.lit (Value.bool false),PV.lit (Value.string (ByteArray.mk #[]))])] [] []),[],[decide ((↑ny:Int)>(2:Int))=true,aa t11 186 [PV.sl 1 nx xs,PV.sl 1 ny ys] (RV.mk (PV.aQ [q,PV.sl 1 nr rs]) none)]):=by kernel_rfl
theorem TQ (k nx ny nr:Nat) (xs ys rs:List PV) (q:PV):ay MD t11 k 141 0 ⟨[(4, .bp 4 0),(5, .pv (.sl 1 nx xs)),(6, .pv (.sl 1 ny ys))],[(4,[bv false,sv ⟨#[]⟩])],[],[]⟩ [.c false, .c true, .c true, .r (one (.aQ [q, .sl 1 nr rs]))]=
 some ((Xt.normal,St.mk [(4,AV.bp 4 0),(5,AV.pv (PV.sl 1 ny ys)),(6,AV.pv (PV.sl 1 nr rs))] [(4,[PV.lit (Value.bool false),PV.lit (Value.string (ByteArray.mk #[]))])] [] []),[],[decide ((↑ny:Int)>(2:Int))=false,decide ((↑nx:Int)>(2:Int))=true,decide ((↑ny:Int)>(0:Int))=true,aa t11 186 [PV.sl 1 nx xs,PV.sl 1 ny ys] (RV.mk (PV.aQ [q,PV.sl 1 nr rs]) none)]):=by kernel_rfl
theorem TR (k nx ny nr:Nat) (xs ys rs:List PV) (q:PV):ay MD t11 k 141 0 ⟨[(4, .bp 4 0),(5, .pv (.sl 1 nx xs)),(6, .pv (.sl 1 ny ys))],[(4,[bv false,sv ⟨#[]⟩])],[],[]⟩ [.c false, .c false]=
 some ((Xt.exit 0,St.mk [(4,AV.bp 4 0),(5,AV.pv (PV.sl 1 nx xs)),(6,AV.pv (PV.sl 1 ny ys)),(38,AV.pv (PV.lit (Value.bool false)))] [(4,[PV.lit (Value.bool false),PV.lit (Value.string (ByteArray.mk #[]))])] [] []),[],[decide ((↑ny:Int)>(2:Int))=false,decide ((↑nx:Int)>(2:Int))=false]):=by kernel_rfl
theorem TS (k nx ny nr:Nat) (xs ys rs:List PV) (q:PV):ay MD t11 k 141 0 ⟨[(4, .bp 4 0),(5, .pv (.sl 1 nx xs)),(6, .pv (.sl 1 ny ys))],[(4,[bv false,sv ⟨#[]⟩])],[],[]⟩ [.c false, .c true, .c false]=
 some ((Xt.exit 0,St.mk [(4,AV.bp 4 0),(5,AV.pv (PV.sl 1 nx xs)),(6,AV.pv (PV.sl 1 ny ys)),(38,AV.pv (PV.lit (Value.bool false)))] [(4,[PV.lit (Value.bool false),PV.lit (Value.string (ByteArray.mk #[]))])] [] []),[],[decide ((↑ny:Int)>(2:Int))=false,decide ((↑nx:Int)>(2:Int))=true,decide ((↑ny:Int)>(0:Int))=false]):=by kernel_rfl
theorem TT (k n m:Nat):ay MD t11 k 141 1 ⟨[(4, .bp 4 0),(9, .pv (bB n)),(10, .pv (bB m))],[(4,[bv false,sv ⟨#[]⟩])],[],[]⟩ [.c false]=
 some ((Xt.exit 2,St.mk [(4,AV.bp 4 0),(9,AV.pv (PV.lit (Value.int IntKind.u64 (↑n:Int)))),(10,AV.pv (PV.lit (Value.int IntKind.u64 (↑m:Int)))),(57,AV.pv (PV.lit (Value.bool false)))] [(4,[PV.lit (Value.bool false),PV.lit (Value.string (ByteArray.mk #[]))])] [] []),[],[((↑m:Int) !=(0:Int))=false]):=by kernel_rfl
theorem TU (k n m:Nat):ay MD t11 k 141 1 ⟨[(4, .bp 4 0),(9, .pv (bB n)),(10, .pv (bB m))],[(4,[bv false,sv ⟨#[]⟩])],[],[]⟩ [.c true, .i 61 (n%m:Nat)]=
 some ((Xt.normal,St.mk [(4,AV.bp 4 0),(9,AV.pv (PV.lit (Value.int IntKind.u64 (↑m:Int)))),(10,AV.pv (PV.lit (Value.int IntKind.u64 (↑(n%m):Int))))] [(4,[PV.lit (Value.bool false),PV.lit (Value.string (ByteArray.mk #[]))])] [] []),[],[((↑m:Int) !=(0:Int))=true,(↑n:Int).tmod (↑m:Int)=(↑(n%m):Int),decide ((↑m:Int)=(0:Int))=false]):=by kernel_rfl
theorem cJ {s:ByteArray}:(s.toList==(ByteArray.mk #[]).toList)=decide (s.size=0):=by
 rw [ByteArray.toList_eq,ByteArray.toList_eq]
 have hz:s.size=s.data.toList.length:=rfl
 rw [hz]
 cases s.data.toList with
 |nil=>rfl
 |cons c t=>simp
theorem nj (g:Bool) (s:ByteArray):az P0 94 [iz g s] (one (bv (cC g s))):=by
 by_cases h:s.size=0
 · have:=aj ah kf (by rfl) (Xy 1 g s) ⟨by rw [cJ];simpa using h,trivial⟩
   simp only [cC,h,if_true]
   exact this
 · obtain ⟨n,hn⟩:∃n,s.size=n+1:=⟨s.size - 1,by omega⟩
   obtain ⟨b,hb,_⟩:=jg hn
   have e:cC g s=decide (b.toNat≠0):=by
    simp only [cC,h,if_false,hb,Option.map_some,ne_eq,Option.some.injEq]
   rw [e]
   refine aj ah kf (by rfl) (Xz 1 b.toNat g (decide (b.toNat≠0)) s) ⟨by rw [cJ];simpa using h,lE hb, ?_,trivial⟩
   by_cases h0:b.toNat=0
   · simp [h0]
   · simp [h0]
theorem lY (z:Int):cC (decide (z<0)) (af z.natAbs)=true:=by
 unfold cC
 have hl:=bL (af z.natAbs)
 rw [cU] at hl
 by_cases h:(af z.natAbs).size=0
 · rw [if_pos h]
   have:dg 256 z.natAbs=[]:=List.length_eq_zero_iff.1 (by omega)
   have hv:=bP (b:=256) (by decide) z.natAbs
   rw [this] at hv
   simp only [val] at hv
   simp;omega
 · rw [if_neg h]
   obtain ⟨n,hn⟩:∃n,(af z.natAbs).size=n+1:=⟨(af z.natAbs).size - 1,by omega⟩
   obtain ⟨b,hb,zn⟩:=jg hn
   have uO:=E6 z.natAbs
   rcases uO with h1|⟨m,x,h1,h2⟩
   · rw [h1] at zn;simp at zn
   · rw [h1] at zn
     have:=(List.append_inj' zn rfl).2
     simp only [List.cons.injEq,and_true] at this
     rw [hb];simp;omega
theorem E3 {a b:Bool×ByteArray} (e:[iz a.1 a.2]=[iz b.1 b.2]):a=b:=by
 simp only [iz,bv,sv,List.cons.injEq,and_true,PV.ag.injEq,PV.lit.injEq,Value.bool.injEq,Value.string.injEq] at e
 exact Prod.ext e.1 e.2
theorem cy (g:Bool) (s:ByteArray):eU [iz g s]=some (one (bv (cC g s))):=
 aO (a:=(g,s)) (enc:=fun x:Bool×ByteArray=>[iz x.1 x.2]) (fun a b e=>by rw [E3 e]) trivial
theorem vM {s t:ByteArray} (e:sv s=sv t):s=t:=by simpa [sv] using e
theorem Ah {s:ByteArray} (h:s.size<2^30):Fp [sv s]=some (one (nat (dg (4294967296:Nat) (bI s)))):=
 aO (enc:=fun s:ByteArray=>[sv s]) (fun a b e=>by rw [vM (List.cons.inj e).1]) h
theorem uy {a b:Nat} (h:dg (4294967296:Nat) a=dg (4294967296:Nat) b):a=b:=by
 have:=congrArg (val (4294967296:Nat)) h
 rwa [bP (by decide),bP (by decide)] at this
theorem wg {a b:Nat} (hb:0<b) (h1:(dg (4294967296:Nat) a).length<2^39) (h2:(dg (4294967296:Nat) b).length<2^39):GW [nat (dg (4294967296:Nat) a),nat (dg (4294967296:Nat) b)]=some (one (.aQ [tX a b,nat (dg (4294967296:Nat) (a%b))])):=
 aO (a:=(a,b)) (enc:=fun x:Nat×Nat=>[nat (dg (4294967296:Nat) x.1),nat (dg (4294967296:Nat) x.2)]) (fun a b e=>by
  simp only [List.cons.injEq,and_true] at e
  rw [uy (fH e.1),uy (fH e.2)]) ⟨hb,h1,h2⟩
theorem vD {l:List Nat} (h:aZ (4294967296:Nat) l) (h2:l.length≤2):Co [nat l]=some (one (bB (val (4294967296:Nat) l))):=
 aO (enc:=fun l:List Nat=>[nat l]) (fun a b e=>by rw [fH (List.cons.inj e).1]) ⟨h,h2⟩
theorem KV {a b:Nat} (h:bB a=bB b):a=b:=by
 simp only [bB,PV.lit.injEq,Value.int.injEq,true_and] at h;omega
theorem tY {n:Nat} (h:n<2^64):DU [bB n]=some (one (nat (dg (4294967296:Nat) n))):=
 aO (enc:=fun n:Nat=>[bB n]) (fun a b e=>by rw [KV (List.cons.inj e).1]) h
theorem nk {l:List Nat} (h:l.length<2^40) (hd:aZ (4294967296:Nat) l) (b:Bool):n7 [nat l,bv b]=some (one (.ag (zc (if b then -(val (4294967296:Nat) l:Int) else (val (4294967296:Nat) l:Int))))):=
 aO (a:=(l,b)) (enc:=fun x:List Nat×Bool=>[nat x.1,bv x.2]) (fun a b e=>by
  simp only [List.cons.injEq,and_true] at e
  have h2:a.2=b.2:=by simpa [bv] using e.2
  rw [fH e.1,h2]) ⟨h,hd⟩
theorem F4:aH MD.P t11:=aI
 (ak (ax fun x _=>nj x.1 x.2)
 (ak (ax fun s h=>Dn s h)
 (ak (ax fun x h=>xk h.1 h.2.1 h.2.2)
 (ak (ax fun l h=>F1 l h.1 h.2)
 (ak (ax fun n h=>Cw n h)
 (ak (ax fun x h=>sH x.1 h.1 h.2 x.2) aF))))))
def Sg (x y:Nat) (e:List (Nat×AV)):St:=⟨(4, .bp 4 0)::(5, .pv (nat (dg (4294967296:Nat) x)))::(6, .pv (nat (dg (4294967296:Nat) y)))::e,[(4,[bv false,sv ⟨#[]⟩])],[],[]⟩
theorem mL (x y:Nat):Nat.gcd y (x%y)=Nat.gcd x y:=by
 rw [Nat.gcd_comm x y,Nat.gcd_rec y x,Nat.gcd_comm]
theorem og {a b:Nat} (h:a≤b):(dg (4294967296:Nat) a).length≤(dg (4294967296:Nat) b).length:=by
 rcases Nat.lt_or_ge (dg (4294967296:Nat) b).length (dg (4294967296:Nat) a).length with h1|h1
 · have:=nF h1;omega
 · exact h1
theorem BD {a:Nat} (h:(dg (4294967296:Nat) a).length=0):a=0:=by
 have:=cz (b:=(4294967296:Nat)) (n:=a) (by decide)
 rw [h] at this;simpa using this
theorem He (k:Nat):∀(y x:Nat),(dg (4294967296:Nat) x).length<2^39→(dg (4294967296:Nat) y).length<2^39→∃x' y',Nat.gcd x' y'=Nat.gcd x y∧(dg (4294967296:Nat) x').length<2^39∧(y'=0∨(dg (4294967296:Nat) x').length≤2∧(dg (4294967296:Nat) y').length≤2)∧bh (aU MD t11 k 141 0) (y+1) (Sg x y [])=some (.exit 0,Sg x' y' [(38, .pv (bv false))]):=by
 intro y
 induction y using Nat.strongRecOn with
 |_ y ih=>
  intro x hx hy
  by_cases h1:2<(dg (4294967296:Nat) y).length
  · have hy0:0<y:=by
      rcases Nat.eq_zero_or_pos y with h|h
      · subst h;simp [dH] at h1
      · exact h
    have hr:x%y<y:=Nat.mod_lt _ hy0
    obtain ⟨x',y',g1,g2,g3,g4⟩:=ih (x%y) hr y hy (Nat.lt_of_le_of_lt (og (Nat.le_of_lt hr)) hy)
    refine ⟨x',y',by rw [g1,mL],g2,g3, ?_⟩
    have hc:=wg hy0 hx hy
    exact bz (aq (TP k _ _ _ _ _ _ (tX x y)) ⟨by simp;omega,hc,trivial⟩) (bR (by omega) g4)
  · by_cases h2:2<(dg (4294967296:Nat) x).length
    · by_cases h3:0<(dg (4294967296:Nat) y).length
      · have hy0:0<y:=by
          rcases Nat.eq_zero_or_pos y with h|h
          · subst h;simp [dH] at h3
          · exact h
        have hr:x%y<y:=Nat.mod_lt _ hy0
        obtain ⟨x',y',g1,g2,g3,g4⟩:=ih (x%y) hr y hy (Nat.lt_of_le_of_lt (og (Nat.le_of_lt hr)) hy)
        refine ⟨x',y',by rw [g1,mL],g2,g3, ?_⟩
        have hc:=wg hy0 hx hy
        exact bz (aq (TQ k _ _ _ _ _ _ (tX x y)) ⟨by simp;omega,by simp;omega,by simp;omega,hc,trivial⟩) (bR (by omega) g4)
      · have hy0:y=0:=BD (by omega)
        exact ⟨x,y,rfl,hx, .inl hy0,aW (aq (TS k _ _ 0 _ _ [] (.aQ [])) ⟨by simp;omega,by simp;omega,by rw [show (dg (4294967296:Nat) y).length=0 by omega];rfl,trivial⟩) (by simp)⟩
    · exact ⟨x,y,rfl,hx, .inr ⟨by omega,by omega⟩,aW (aq (TR k _ _ 0 _ _ [] (.aQ [])) ⟨by simp;omega,by simp;omega,trivial⟩) (by simp)⟩
def Sw (n m:Nat) (e:List (Nat×AV)):St:=⟨(4, .bp 4 0)::(9, .pv (bB n))::(10, .pv (bB m))::e,[(4,[bv false,sv ⟨#[]⟩])],[],[]⟩
theorem Ex (k:Nat):∀(m n:Nat),bh (aU MD t11 k 141 1) (m+1) (Sw n m [])=some (.exit 2,Sw (Nat.gcd n m) 0 [(57, .pv (bv false))]):=by
 intro m
 induction m using Nat.strongRecOn with
 |_ m ih=>
  intro n
  by_cases h:m=0
  · subst h
    rw [Nat.gcd_zero_right]
    exact aW (aq (TT k n 0) ⟨rfl,trivial⟩) (by simp)
  · have hr:n%m<m:=Nat.mod_lt _ (by omega)
    have:=ih (n%m) hr m
    rw [mL] at this
    exact bz (aq (TU k n m) ⟨by simpa using h,fQ _ _,by simpa using h,trivial⟩) (bR (by omega) this)
theorem LA (a b:Int) (ha:(af a.natAbs).size<2^30) (hb:(af b.natAbs).size<2^30):az P0 141 [.ag (zc a), .ag (zc b)] (one (.ag (zc (Nat.gcd a.natAbs b.natAbs:Nat)))):=by
 have MJ:∀z:Int,(af z.natAbs).size<2^30→(dg (4294967296:Nat) z.natAbs).length<2^39:=by
  intro z hz
  have h1:=cz (b:=256) (n:=z.natAbs) (by decide)
  have h2:(dg 256 z.natAbs).length=(af z.natAbs).size:=by rw [←cU,bL]
  rw [h2] at h1
  have h3:256^(af z.natAbs).size≤(4294967296:Nat)^(af z.natAbs).size:=Nat.pow_le_pow_left (by decide) _
  have:=gS (b:=(4294967296:Nat)) (n:=z.natAbs) (k:=(af z.natAbs).size) (by decide) (by omega)
  omega
 have v1:=cy (decide (a<0)) (af a.natAbs)
 have v2:=cy (decide (b<0)) (af b.natAbs)
 rw [lY] at v1 v2
 have o1:=Ah ha
 have o2:=Ah hb
 rw [fP] at o1 o2
 obtain ⟨k,hk⟩:∃k,k=a.natAbs+b.natAbs+2^64+5:=⟨_,rfl⟩
 obtain ⟨x,y,g1,g2,g3,g4⟩:=He k b.natAbs a.natAbs (MJ a ha) (MJ b hb)
 have g4:=bR (show b.natAbs+1≤k by omega) g4
 by_cases hy:y=0
 · subst hy
   rw [Nat.gcd_zero_right] at g1
   have hw:=nk (l:=dg (4294967296:Nat) x) (by omega) (bU (by decide) x) false
   rw [bP (by decide)] at hw
   simp only [Bool.false_eq_true,if_false] at hw
   rw [g1] at hw g4
   have:=aj ah F4 (by rfl) (TI k _ _ _ 0 0 0 (decide (a<0)) (decide (b<0)) (af a.natAbs) (af b.natAbs) _ _ (us (dg (4294967296:Nat) (Nat.gcd a.natAbs b.natAbs))) [] (decide (((Nat.gcd a.natAbs b.natAbs:Nat):Int)<0)) (af ((Nat.gcd a.natAbs b.natAbs:Nat):Int).natAbs) (.aQ [])) ⟨v1,v2,o1,o2,g4,rfl,hw,trivial⟩
   exact this
 · rcases g3 with g3|⟨l1,l2⟩
   · exact absurd g3 hy
   · have hlt:∀z,(dg (4294967296:Nat) z).length≤2→z<2^64:=by
       intro z hz
       have h1:=cz (b:=(4294967296:Nat)) (n:=z) (by decide)
       have h2:(4294967296:Nat)^(dg (4294967296:Nat) z).length≤(4294967296:Nat)^2:=Nat.pow_le_pow_right (by decide) hz
       omega
     have hxl:=hlt x l1
     have My:=hlt y l2
     have O9:Nat.gcd x y<2^64:=Nat.lt_of_le_of_lt (Nat.gcd_le_right x (by omega)) My
     have s1:=vD (bU (b:=(4294967296:Nat)) (by decide) x) l1
     have s2:=vD (bU (b:=(4294967296:Nat)) (by decide) y) l2
     rw [bP (by decide)] at s1 s2
     have g5:=bR (show y+1≤k by omega) (Ex k y x)
     have w1:=tY O9
     have Qs:(dg (4294967296:Nat) (Nat.gcd x y)).length<2^40:=Nat.lt_of_le_of_lt (og (Nat.gcd_le_right x (by omega))) (by omega)
     have hw:=nk (l:=dg (4294967296:Nat) (Nat.gcd x y)) Qs (bU (by decide) _) false
     rw [bP (by decide)] at hw
     simp only [Bool.false_eq_true,if_false] at hw
     have hne:(((dg (4294967296:Nat) y).length:Int)==0)=false:=by
      have:(dg (4294967296:Nat) y).length≠0:=fun h=>hy (BD h)
      simp;intro h;rw [h] at this;simp at this
     rw [g1] at hw g5 w1
     have:=aj ah F4 (by rfl) (TJ k _ _ _ _ (Nat.gcd a.natAbs b.natAbs) 0 (decide (a<0)) (decide (b<0)) (af a.natAbs) (af b.natAbs) _ _ (us (dg (4294967296:Nat) x)) (us (dg (4294967296:Nat) y)) (decide (((Nat.gcd a.natAbs b.natAbs:Nat):Int)<0)) (af ((Nat.gcd a.natAbs b.natAbs:Nat):Int).natAbs) (nat (dg (4294967296:Nat) (Nat.gcd a.natAbs b.natAbs))) x y) ⟨v1,v2,o1,o2,g4,hne,s1,s2,g5,w1,hw,trivial⟩
     exact this
end Go.Proofs.YtibbgjafjhcemaaGreatDoor.Cul
namespace Go.Proofs.YtibbgjafjhcemaaGreatDoor.Cul
open Go Go.RowKit
noncomputable def t12:Cl:=bM [(94,eU),(142,DU),(101,n7)]
theorem VC (k:Nat) (g:Bool) (s:ByteArray):aA MD t12 k 52 [iz g s] [.r (one (bv false))]=
 some (RV.mk (PV.ag [PV.lit (Value.bool false),PV.lit (Value.string (ByteArray.mk #[]))]) none,[aa t12 94 [PV.ag [PV.lit (Value.bool g),PV.lit (Value.string s)]] (RV.mk (PV.lit (Value.bool false)) none)]):=by kernel_rfl
theorem VD (k:Nat) (s:ByteArray):aA MD t12 k 52 [iz true s] [.r (one (bv true))]=
 some (RV.mk (PV.ag [PV.lit (Value.bool false),PV.lit (Value.string s)]) none,[aa t12 94 [PV.ag [PV.lit (Value.bool true),PV.lit (Value.string s)]] (RV.mk (PV.lit (Value.bool true)) none)]):=by kernel_rfl
theorem VE (k:Nat) (b:Bool) (s:ByteArray):aA MD t12 k 52 [iz false s] [.r (one (bv true)), .c b]=
 some (RV.mk (PV.ag [PV.lit (Value.bool b),PV.lit (Value.string s)]) none,[aa t12 94 [PV.ag [PV.lit (Value.bool false),PV.lit (Value.string s)]] (RV.mk (PV.lit (Value.bool true)) none),(!s.toList==(ByteArray.mk #[]).toList)=b]):=by kernel_rfl
theorem WR (k:Nat) (g:Bool) (s:ByteArray):aA MD t12 k 95 [iz g s] [.r (one (bv false))]=
 some (RV.mk (PV.lit (Value.int IntKind.i64 (0:Int))) none,[aa t12 94 [PV.ag [PV.lit (Value.bool g),PV.lit (Value.string s)]] (RV.mk (PV.lit (Value.bool false)) none)]):=by kernel_rfl
theorem WS (k:Nat) (g:Bool) (s:ByteArray):aA MD t12 k 95 [iz g s] [.r (one (bv true)), .c true]=
 some (RV.mk (PV.lit (Value.int IntKind.i64 (0:Int))) none,[aa t12 94 [PV.ag [PV.lit (Value.bool g),PV.lit (Value.string s)]] (RV.mk (PV.lit (Value.bool true)) none),(s.toList==(ByteArray.mk #[]).toList)=true]):=by kernel_rfl
theorem WT (k:Nat) (s:ByteArray):aA MD t12 k 95 [iz true s] [.r (one (bv true)), .c false]=
 some (RV.mk (PV.lit (Value.int IntKind.i64 (-1:Int))) none,[aa t12 94 [PV.ag [PV.lit (Value.bool true),PV.lit (Value.string s)]] (RV.mk (PV.lit (Value.bool true)) none),(s.toList==(ByteArray.mk #[]).toList)=false]):=by kernel_rfl
theorem WU (k:Nat) (s:ByteArray):aA MD t12 k 95 [iz false s] [.r (one (bv true)), .c false]=
 some (RV.mk (PV.lit (Value.int IntKind.i64 (1:Int))) none,[aa t12 94 [PV.ag [PV.lit (Value.bool false),PV.lit (Value.string s)]] (RV.mk (PV.lit (Value.bool true)) none),(s.toList==(ByteArray.mk #[]).toList)=false]):=by kernel_rfl
theorem Tk (k nw:Nat) (n w v:Int) (ws:List PV) (e:Bool) (u:ByteArray):aA MD t12 k 97 [iv n] [.c true, .i 6 w, .i 7 v, .r (one (.sl 1 nw ws)), .r (one (iz e u))]=
 some (RV.mk (PV.ag [PV.lit (Value.bool e),PV.lit (Value.string u)]) none,[decide (n<(0:Int))=true,IntKind.u64.wrap n=w,IntKind.u64.wrap ((0:Int) - w)=v,aa t12 142 [PV.lit (Value.int IntKind.u64 v)] (RV.mk (PV.sl 1 nw ws) none),aa t12 101 [PV.sl 1 nw ws,PV.lit (Value.bool true)] (RV.mk (PV.ag [PV.lit (Value.bool e),PV.lit (Value.string u)]) none)]):=by kernel_rfl
theorem Tl (k nw:Nat) (n w:Int) (ws:List PV) (e:Bool) (u:ByteArray):aA MD t12 k 97 [iv n] [.c false, .i 11 w, .r (one (.sl 1 nw ws)), .r (one (iz e u))]=
 some (RV.mk (PV.ag [PV.lit (Value.bool e),PV.lit (Value.string u)]) none,[decide (n<(0:Int))=false,IntKind.u64.wrap n=w,aa t12 142 [PV.lit (Value.int IntKind.u64 w)] (RV.mk (PV.sl 1 nw ws) none),aa t12 101 [PV.sl 1 nw ws,PV.lit (Value.bool false)] (RV.mk (PV.ag [PV.lit (Value.bool e),PV.lit (Value.string u)]) none)]):=by kernel_rfl
theorem j9:aH MD.P t12:=aI
 (ak (ax fun x _=>nj x.1 x.2)
 (ak (ax fun n h=>Cw n h)
 (ak (ax fun x h=>sH x.1 h.1 h.2 x.2) aF)))
def oq (g:Bool) (s:ByteArray):PV:=if cC g s then iz (!g&& !decide (s.size=0)) s else iz false ⟨#[]⟩
theorem Fk (g:Bool) (s:ByteArray):az P0 52 [iz g s] (one (oq g s)):=by
 have v:=cy g s
 unfold oq
 cases h:cC g s with
 |false=>rw [h] at v;exact aj ah j9 (by rfl) (VC 1 g s) ⟨v,trivial⟩
 |true=>
  rw [h] at v
  cases g with
  |true=>exact aj ah j9 (by rfl) (VD 1 s) ⟨v,trivial⟩
  |false=>exact aj ah j9 (by rfl) (VE 1 (!decide (s.size=0)) s) ⟨v,by rw [cJ],trivial⟩
def ou (g:Bool) (s:ByteArray):Int:=if cC g s then (if s.size=0 then 0 else if g then -1 else 1) else 0
theorem Cn (g:Bool) (s:ByteArray):az P0 95 [iz g s] (one (iv (ou g s))):=by
 have v:=cy g s
 unfold ou
 cases h:cC g s with
 |false=>rw [h] at v;exact aj ah j9 (by rfl) (WR 1 g s) ⟨v,trivial⟩
 |true=>
  rw [h] at v
  by_cases hz:s.size=0
  · have:=aj ah j9 (by rfl) (WS 1 g s) ⟨v,by rw [cJ];simpa using hz,trivial⟩
    simp only [hz,if_true];exact this
  · simp only [hz,if_true,if_false]
    cases g with
    |true=>exact aj ah j9 (by rfl) (WT 1 s) ⟨v,by rw [cJ];simpa using hz,trivial⟩
    |false=>exact aj ah j9 (by rfl) (WU 1 s) ⟨v,by rw [cJ];simpa using hz,trivial⟩
theorem wrap_u64 (a:Int):IntKind.u64.wrap a=a%18446744073709551616:=by
 unfold IntKind.wrap IntKind.bits IntKind.signed
 simp only
 have e1:(2:Int)^64=18446744073709551616:=by decide
 rw [e1];simp
theorem oV (n:Int) (h1: -(2^63)≤n) (h2:n<2^63):az P0 97 [iv n] (one (.ag (zc n))):=by
 have hlen:∀m:Nat,m<2^64→(dg (4294967296:Nat) m).length<2^40:=by
  intro m hm
  have:=gS (b:=(4294967296:Nat)) (n:=m) (k:=2) (by decide) (by omega)
  omega
 by_cases hn:n<0
 · obtain ⟨m,hm⟩:∃m:Nat,n= -(m:Int):=⟨n.natAbs,by omega⟩
   have w1:=tY (n:=m) (by omega)
   have w2:=nk (l:=dg (4294967296:Nat) m) (hlen m (by omega)) (bU (by decide) m) true
   rw [bP (by decide)] at w2
   simp only [if_true] at w2
   rw [←hm] at w2
   exact aj ah j9 (by rfl) (Tk 1 _ n (n+18446744073709551616) (m:Int) (us (dg (4294967296:Nat) m)) (decide (n<0)) (af n.natAbs)) ⟨by simpa using hn,by rw [wrap_u64];omega,by rw [wrap_u64];omega,w1,w2,trivial⟩
 · obtain ⟨m,hm⟩:∃m:Nat,n=(m:Int):=⟨n.natAbs,by omega⟩
   have w1:=tY (n:=m) (by omega)
   have w2:=nk (l:=dg (4294967296:Nat) m) (hlen m (by omega)) (bU (by decide) m) false
   rw [bP (by decide)] at w2
   simp only [Bool.false_eq_true,if_false] at w2
   rw [←hm] at w2
   exact aj ah j9 (by rfl) (Tl 1 _ n (m:Int) (us (dg (4294967296:Nat) m)) (decide (n<0)) (af n.natAbs)) ⟨by simpa using hn,by rw [wrap_u64];omega,w1,w2,trivial⟩
end Go.Proofs.YtibbgjafjhcemaaGreatDoor.Cul
namespace Go.Proofs.YtibbgjafjhcemaaGreatDoor.Cul
open Go Go.RowKit
noncomputable def CZ:List PV→Option RV:=bJ (fun x:Int×Int=>(af x.1.natAbs).size<2^30∧(af x.2.natAbs).size<2^30) (fun x=>[.ag (zc x.1), .ag (zc x.2)]) (fun x=>one (.ag (zc (Nat.gcd x.1.natAbs x.2.natAbs:Nat))))
noncomputable def AK:List PV→Option RV:=bJ (fun _:Bool×ByteArray=>True) (fun x=>[iz x.1 x.2]) (fun x=>one (iv (ou x.1 x.2)))
noncomputable def wO:List PV→Option RV:=bJ (fun n:Int=> -(2^63)≤n∧n<2^63) (fun n=>[iv n]) (fun n=>one (.ag (zc n)))
noncomputable def t13:Cl:=bM [(141,CZ)]
structure au where
 a:Int
 b:Int
 c:Int
 d:Int
 n:Int
def au.gcd (x:au):Nat:=Nat.gcd (Nat.gcd (Nat.gcd (Nat.gcd x.n.natAbs x.a.natAbs) x.b.natAbs) x.c.natAbs) x.d.natAbs
def au.small (x:au):Prop:=((af x.a.natAbs).size<2^30∧(af x.b.natAbs).size<2^30)∧((af x.c.natAbs).size<2^30∧(af x.d.natAbs).size<2^30)∧(af x.n.natAbs).size<2^30
noncomputable def GN:List PV→Option RV:=bJ au.small (fun x=>[.ag (zc x.a++zc x.b++zc x.c++zc x.d), .ag (zc x.n)]) (fun x=>one (.ag (zc (x.gcd:Nat))))
noncomputable def t14:Cl:=bM [(94,eU),(95,AK),(96,GN),(97,wO)]
def ic (g:Bool) (s:ByteArray):List PV:=[bv g,sv s]
theorem cm (k:Nat) (g0 g1 g2 g3 gd e0 e1 e2 e3:Bool) (s0 s1 s2 s3 sd u0 u1 u2 u3:ByteArray):aA MD t13 k 96 [.ag [bv g0,sv s0,bv g1,sv s1,bv g2,sv s2,bv g3,sv s3],iz gd sd] [.u 5, .c true, .r (one (iz e0 u0)), .c true, .r (one (iz e1 u1)), .c true, .r (one (iz e2 u2)), .c true, .r (one (iz e3 u3)), .c false]=
 some (RV.mk (PV.ag [PV.lit (Value.bool e3),PV.lit (Value.string u3)]) none,[(5:Nat)≤k,true=true,aa t13 141 [PV.ag [PV.lit (Value.bool gd),PV.lit (Value.string sd)],PV.ag [PV.lit (Value.bool g0),PV.lit (Value.string s0)]] (RV.mk (PV.ag [PV.lit (Value.bool e0),PV.lit (Value.string u0)]) none),true=true,aa t13 141 [PV.ag [PV.lit (Value.bool e0),PV.lit (Value.string u0)],PV.ag [PV.lit (Value.bool g1),PV.lit (Value.string s1)]] (RV.mk (PV.ag [PV.lit (Value.bool e1),PV.lit (Value.string u1)]) none),true=true,aa t13 141 [PV.ag [PV.lit (Value.bool e1),PV.lit (Value.string u1)],PV.ag [PV.lit (Value.bool g2),PV.lit (Value.string s2)]] (RV.mk (PV.ag [PV.lit (Value.bool e2),PV.lit (Value.string u2)]) none),true=true,aa t13 141 [PV.ag [PV.lit (Value.bool e2),PV.lit (Value.string u2)],PV.ag [PV.lit (Value.bool g3),PV.lit (Value.string s3)]] (RV.mk (PV.ag [PV.lit (Value.bool e3),PV.lit (Value.string u3)]) none),false=false]):=by kernel_rfl
theorem Tm (k:Nat) (g0 g1 g2 g3 gd:Bool) (s0 s1 s2 s3 sd:ByteArray):aA MD t14 k 51 [.ag [bv g0,sv s0,bv g1,sv s1,bv g2,sv s2,bv g3,sv s3,bv gd,sv sd]] [.u 5, .c true, .r (one (bv false))]=
 some (RV.mk (PV.lit (Value.bool false)) none,[(5:Nat)≤k,true=true,aa t14 94 [PV.ag [PV.lit (Value.bool g0),PV.lit (Value.string s0)]] (RV.mk (PV.lit (Value.bool false)) none)]):=by kernel_rfl
theorem Tn (k:Nat) (g0 g1 g2 g3 gd:Bool) (s0 s1 s2 s3 sd:ByteArray):aA MD t14 k 51 [.ag [bv g0,sv s0,bv g1,sv s1,bv g2,sv s2,bv g3,sv s3,bv gd,sv sd]] [.u 5, .c true, .r (one (bv true)), .c true, .r (one (bv false))]=
 some (RV.mk (PV.lit (Value.bool false)) none,[(5:Nat)≤k,true=true,aa t14 94 [PV.ag [PV.lit (Value.bool g0),PV.lit (Value.string s0)]] (RV.mk (PV.lit (Value.bool true)) none),true=true,aa t14 94 [PV.ag [PV.lit (Value.bool g1),PV.lit (Value.string s1)]] (RV.mk (PV.lit (Value.bool false)) none)]):=by kernel_rfl
theorem To (k:Nat) (g0 g1 g2 g3 gd:Bool) (s0 s1 s2 s3 sd:ByteArray):aA MD t14 k 51 [.ag [bv g0,sv s0,bv g1,sv s1,bv g2,sv s2,bv g3,sv s3,bv gd,sv sd]] [.u 5, .c true, .r (one (bv true)), .c true, .r (one (bv true)), .c true, .r (one (bv false))]=
 some (RV.mk (PV.lit (Value.bool false)) none,[(5:Nat)≤k,true=true,aa t14 94 [PV.ag [PV.lit (Value.bool g0),PV.lit (Value.string s0)]] (RV.mk (PV.lit (Value.bool true)) none),true=true,aa t14 94 [PV.ag [PV.lit (Value.bool g1),PV.lit (Value.string s1)]] (RV.mk (PV.lit (Value.bool true)) none),true=true,aa t14 94 [PV.ag [PV.lit (Value.bool g2),PV.lit (Value.string s2)]] (RV.mk (PV.lit (Value.bool false)) none)]):=by kernel_rfl
theorem Tp (k:Nat) (g0 g1 g2 g3 gd:Bool) (s0 s1 s2 s3 sd:ByteArray):aA MD t14 k 51 [.ag [bv g0,sv s0,bv g1,sv s1,bv g2,sv s2,bv g3,sv s3,bv gd,sv sd]] [.u 5, .c true, .r (one (bv true)), .c true, .r (one (bv true)), .c true, .r (one (bv true)), .c true, .r (one (bv false))]=
 some (RV.mk (PV.lit (Value.bool false)) none,[(5:Nat)≤k,true=true,aa t14 94 [PV.ag [PV.lit (Value.bool g0),PV.lit (Value.string s0)]] (RV.mk (PV.lit (Value.bool true)) none),true=true,aa t14 94 [PV.ag [PV.lit (Value.bool g1),PV.lit (Value.string s1)]] (RV.mk (PV.lit (Value.bool true)) none),true=true,aa t14 94 [PV.ag [PV.lit (Value.bool g2),PV.lit (Value.string s2)]] (RV.mk (PV.lit (Value.bool true)) none),true=true,aa t14 94 [PV.ag [PV.lit (Value.bool g3),PV.lit (Value.string s3)]] (RV.mk (PV.lit (Value.bool false)) none)]):=by kernel_rfl
theorem Tq (k:Nat) (g0 g1 g2 g3 gd:Bool) (s0 s1 s2 s3 sd:ByteArray):aA MD t14 k 51 [.ag [bv g0,sv s0,bv g1,sv s1,bv g2,sv s2,bv g3,sv s3,bv gd,sv sd]] [.u 5, .c true, .r (one (bv true)), .c true, .r (one (bv true)), .c true, .r (one (bv true)), .c true, .r (one (bv true)), .c false, .r (one (bv false))]=
 some (RV.mk (PV.lit (Value.bool false)) none,[(5:Nat)≤k,true=true,aa t14 94 [PV.ag [PV.lit (Value.bool g0),PV.lit (Value.string s0)]] (RV.mk (PV.lit (Value.bool true)) none),true=true,aa t14 94 [PV.ag [PV.lit (Value.bool g1),PV.lit (Value.string s1)]] (RV.mk (PV.lit (Value.bool true)) none),true=true,aa t14 94 [PV.ag [PV.lit (Value.bool g2),PV.lit (Value.string s2)]] (RV.mk (PV.lit (Value.bool true)) none),true=true,aa t14 94 [PV.ag [PV.lit (Value.bool g3),PV.lit (Value.string s3)]] (RV.mk (PV.lit (Value.bool true)) none),false=false,aa t14 94 [PV.ag [PV.lit (Value.bool gd),PV.lit (Value.string sd)]] (RV.mk (PV.lit (Value.bool false)) none)]):=by kernel_rfl
theorem Tr (k:Nat) (g0 g1 g2 g3 gd:Bool) (s0 s1 s2 s3 sd:ByteArray) (n:Int):aA MD t14 k 51 [.ag [bv g0,sv s0,bv g1,sv s1,bv g2,sv s2,bv g3,sv s3,bv gd,sv sd]] [.u 5, .c true, .r (one (bv true)), .c true, .r (one (bv true)), .c true, .r (one (bv true)), .c true, .r (one (bv true)), .c false, .r (one (bv true)), .r (one (iv n)), .c false]=
 some (RV.mk (PV.lit (Value.bool false)) none,[(5:Nat)≤k,true=true,aa t14 94 [PV.ag [PV.lit (Value.bool g0),PV.lit (Value.string s0)]] (RV.mk (PV.lit (Value.bool true)) none),true=true,aa t14 94 [PV.ag [PV.lit (Value.bool g1),PV.lit (Value.string s1)]] (RV.mk (PV.lit (Value.bool true)) none),true=true,aa t14 94 [PV.ag [PV.lit (Value.bool g2),PV.lit (Value.string s2)]] (RV.mk (PV.lit (Value.bool true)) none),true=true,aa t14 94 [PV.ag [PV.lit (Value.bool g3),PV.lit (Value.string s3)]] (RV.mk (PV.lit (Value.bool true)) none),false=false,aa t14 94 [PV.ag [PV.lit (Value.bool gd),PV.lit (Value.string sd)]] (RV.mk (PV.lit (Value.bool true)) none),aa t14 95 [PV.ag [PV.lit (Value.bool gd),PV.lit (Value.string sd)]] (RV.mk (PV.lit (Value.int IntKind.i64 n)) none),decide (n>(0:Int))=false]):=by kernel_rfl
theorem Ts (k:Nat) (g0 g1 g2 g3 gd b:Bool) (s0 s1 s2 s3 sd u v:ByteArray) (n:Int):aA MD t14 k 51 [.ag [bv g0,sv s0,bv g1,sv s1,bv g2,sv s2,bv g3,sv s3,bv gd,sv sd]] [.u 5, .c true, .r (one (bv true)), .c true, .r (one (bv true)), .c true, .r (one (bv true)), .c true, .r (one (bv true)), .c false, .r (one (bv true)), .r (one (iv n)), .c true, .r (one (iz false u)), .r (one (iz false v)), .g b]=
 some (RV.mk (PV.lit (Value.bool b)) none,[(5:Nat)≤k,true=true,aa t14 94 [PV.ag [PV.lit (Value.bool g0),PV.lit (Value.string s0)]] (RV.mk (PV.lit (Value.bool true)) none),true=true,aa t14 94 [PV.ag [PV.lit (Value.bool g1),PV.lit (Value.string s1)]] (RV.mk (PV.lit (Value.bool true)) none),true=true,aa t14 94 [PV.ag [PV.lit (Value.bool g2),PV.lit (Value.string s2)]] (RV.mk (PV.lit (Value.bool true)) none),true=true,aa t14 94 [PV.ag [PV.lit (Value.bool g3),PV.lit (Value.string s3)]] (RV.mk (PV.lit (Value.bool true)) none),false=false,aa t14 94 [PV.ag [PV.lit (Value.bool gd),PV.lit (Value.string sd)]] (RV.mk (PV.lit (Value.bool true)) none),aa t14 95 [PV.ag [PV.lit (Value.bool gd),PV.lit (Value.string sd)]] (RV.mk (PV.lit (Value.int IntKind.i64 n)) none),decide (n>(0:Int))=true,aa t14 96 [PV.ag [PV.lit (Value.bool g0),PV.lit (Value.string s0),PV.lit (Value.bool g1),PV.lit (Value.string s1),PV.lit (Value.bool g2),PV.lit (Value.string s2),PV.lit (Value.bool g3),PV.lit (Value.string s3)],PV.ag [PV.lit (Value.bool gd),PV.lit (Value.string sd)]] (RV.mk (PV.ag [PV.lit (Value.bool false),PV.lit (Value.string u)]) none),aa t14 97 [PV.lit (Value.int IntKind.i64 (1:Int))] (RV.mk (PV.ag [PV.lit (Value.bool false),PV.lit (Value.string v)]) none),jx MD.P BinOp.eql 23 (Operand.tmp (28:Nat)) (Operand.tmp (29:Nat)) (Value.agg (Array.mk [Value.bool false,Value.string u])) (Value.agg (Array.mk [Value.bool false,Value.string v])) b]):=by kernel_rfl
theorem eE {a b:Int} (e:zc a=zc b):a=b:=by
 simp only [zc,bv,sv,List.cons.injEq,and_true,PV.lit.injEq,Value.bool.injEq,Value.string.injEq] at e
 have h1:a.natAbs=b.natAbs:=by have:=congrArg bI e.2;rwa [fP,fP] at this
 have h2:(a<0)↔(b<0):=by simpa using e.1
 omega
theorem oI {a b:Int} (ha:(af a.natAbs).size<2^30) (hb:(af b.natAbs).size<2^30):CZ [.ag (zc a), .ag (zc b)]=some (one (.ag (zc (Nat.gcd a.natAbs b.natAbs:Nat)))):=
 aO (a:=(a,b)) (enc:=fun x:Int×Int=>[.ag (zc x.1), .ag (zc x.2)]) (fun a b e=>by
  simp only [List.cons.injEq,and_true,PV.ag.injEq] at e
  rw [eE e.1,eE e.2]) ⟨ha,hb⟩
theorem NH:aH MD.P t13:=aI (ak (ax fun x h=>LA x.1 x.2 h.1 h.2) aF)
theorem xX {a b:Nat} (h:a≤b):(af a).size≤(af b).size:=by
 have e:∀n,(af n).size=(dg 256 n).length:=fun n=>by rw [←cU,bL]
 rw [e,e]
 rcases Nat.eq_zero_or_pos a with rfl|ha
 · simp [dH]
 · have h1:=nE (b:=256) (by decide) ha
   have h2:=cz (b:=256) (n:=b) (by decide)
   rcases Nat.lt_or_ge (dg 256 b).length (dg 256 a).length with h3|h3
   · have:256^(dg 256 b).length≤256^((dg 256 a).length - 1):=Nat.pow_le_pow_right (by decide) (by omega)
     omega
   · exact h3
theorem pO {x y:Nat} (hx:(af x).size<2^30) (hy:(af y).size<2^30):(af (Nat.gcd x y)).size<2^30:=by
 rcases Nat.eq_zero_or_pos y with rfl|h
 · rwa [Nat.gcd_zero_right]
 · exact Nat.lt_of_le_of_lt (xX (Nat.gcd_le_right x h)) hy
theorem xh (x:au) (h:x.small):az P0 96 [.ag (zc x.a++zc x.b++zc x.c++zc x.d), .ag (zc x.n)] (one (.ag (zc (x.gcd:Nat)))):=by
 obtain ⟨⟨ha,hb⟩,⟨hc,hd⟩,hn⟩:=h
 have s1:=pO hn ha
 have s2:=pO s1 hb
 have s3:=pO s2 hc
 have c1:=oI hn ha
 have c2:=oI (a:=(Nat.gcd x.n.natAbs x.a.natAbs:Nat)) (b:=x.b) (by simpa using s1) hb
 have c3:=oI (a:=(Nat.gcd (Nat.gcd x.n.natAbs x.a.natAbs) x.b.natAbs:Nat)) (b:=x.c) (by simpa using s2) hc
 have c4:=oI (a:=(Nat.gcd (Nat.gcd (Nat.gcd x.n.natAbs x.a.natAbs) x.b.natAbs) x.c.natAbs:Nat)) (b:=x.d) (by simpa using s3) hd
 simp only [Int.natAbs_natCast] at c2 c3 c4
 exact aj ah NH (by rfl) (cm 5 _ _ _ _ _ _ _ _ _ _ _ _ _ _ _ _ _ _) ⟨by omega,rfl,c1,rfl,c2,rfl,c3,rfl,c4,rfl,trivial⟩
end Go.Proofs.YtibbgjafjhcemaaGreatDoor.Cul
namespace Go.Proofs.YtibbgjafjhcemaaGreatDoor.Cul
open Go Go.RowKit
theorem aV {α β:Type} {P:Program} {f:α→Sem β}:∀{m:Sem α} {a:α},aB P m=some a→aB P (m.bind f)=aB P (f a):=by
 intro m
 induction m with
 |pure x=>intro a h;simp only [aB,Option.some.injEq] at h;subst h;rfl
 |program k ih=>intro a h;simp only [aB] at h;simp only [Sem.bind,aB];exact ih P h
 |mark x k ih=>intro a h;simp only [aB] at h;simp only [Sem.bind,aB];exact ih h
 |_=>intro a h;simp [aB] at h
theorem y7 {P:Program} {d:Nat} {t:TypeId} {f g:Field} {xs ys:Array Value} {a1 a2 b1 b2:Value} {c1 c2:Bool}
  (hu:P.underlying t=some (.struct #[f,g])) (hh:P.stoodInHeld t=false) (hf:f.name≠ "_") (hg:g.name≠ "_")
  (p1:aB P (part f.type xs f.offset)=some a1) (p2:aB P (part f.type ys f.offset)=some b1)
  (p3:aB P (part g.type xs g.offset)=some a2) (p4:aB P (part g.type ys g.offset)=some b2)
  (e1:aB P (Op.equalIn d f.type a1 b1)=some c1) (e2:aB P (Op.equalIn d g.type a2 b2)=some c2):
  aB P (Op.equalIn (d+1) t (.agg xs) (.agg ys))=some (c1&&c2):=by
 simp only [Op.equalIn,underlying,program,Bind.bind,Sem.bind,aB,hu,hh,pure,Pure.pure,Bool.false_eq_true,if_false]
 rw [←Array.forIn_toList]
 simp only [List.forIn_cons,List.forIn_nil,Bind.bind,pure,Pure.pure,hf,hg,ne_eq,not_false_eq_true,if_true]
 have assoc:∀{α β γ:Type} (m:Sem α) (f:α→Sem β) (g:β→Sem γ),(m.bind f).bind g=m.bind fun a=>(f a).bind g:=by
  intro α β γ m
  induction m with
  |pure a=>intro f g;rfl
  |halt h=>intro f g;rfl
  |_=>rename_i ih;intro f g;simp only [Sem.bind];first|(congr 1;funext x;exact ih x f g)|(congr 1;exact ih f g)
 simp only [assoc]
 rw [aV p1,aV p2,aV e1]
 cases c1 with
 |false=>simp [Sem.bind,aB]
 |true=>
  simp only [Bool.not_true,Bool.false_eq_true,if_false,Sem.bind,assoc]
  rw [aV p3,aV p4,aV e2]
  cases c2<;>simp [Sem.bind,aB]
theorem DS:MD.P.underlying 23=some (TypeDesc.struct #[{ name:= "Neg",type:=4,offset:=0,embedded:=false,tag:= "",pkgPath:= "",byteOffset:=0},{ name:= "Mag",type:=9,offset:=1,embedded:=false,tag:= "",pkgPath:= "",byteOffset:=8}]):=by kernel_rfl
theorem EE:MD.P.stoodInHeld 23=false:=by kernel_rfl
theorem J6 (u v:ByteArray):aB MD.P (Op.equalIn (9999+1) 23 (.agg #[.bool false, .string u]) (.agg #[.bool false, .string v]))=some (true&&(u==v)):=
 y7 (a1:= .bool false) (b1:= .bool false) (a2:= .string u) (b2:= .string v) DS EE (by decide) (by decide) (by kernel_rfl) (by kernel_rfl) (by kernel_rfl) (by kernel_rfl) (by kernel_rfl) (by kernel_rfl)
theorem Lu {u v:ByteArray} {b:Bool} (h:(u==v)=b):jx MD.P .eql 23 (.tmp 28) (.tmp 29) (.agg #[.bool false, .string u]) (.agg #[.bool false, .string v]) b:=by
 subst h
 have h1:aB MD.P (eqGuard .eql 23 (.tmp 28) (.tmp 29) (.agg #[.bool false, .string u]) (.agg #[.bool false, .string v]))=some ():=by kernel_rfl
 have h2:=J6 u v
 rw [Bool.true_and] at h2
 show (aB MD.P ((eqGuard .eql 23 (.tmp 28) (.tmp 29) (.agg #[.bool false, .string u]) (.agg #[.bool false, .string v])).bind fun _=>binOp .eql 23 (.agg #[.bool false, .string u]) (.agg #[.bool false, .string v]))).bind iM=some (.lit (.bool (u==v)))
 rw [aV h1]
 show (aB MD.P ((Op.equalIn (9999+1) 23 (.agg #[.bool false, .string u]) (.agg #[.bool false, .string v])).bind fun r=> .pure (.bool r))).bind iM=some (.lit (.bool (u==v)))
 rw [aV h2];rfl
theorem HI {g:Bool} {s:ByteArray} (h:cC g s=true):∃z:Int,z.natAbs=bI s∧g=decide (z<0)∧s=af z.natAbs:=by
 unfold cC at h
 by_cases hz:s.size=0
 · rw [if_pos hz] at h
   have e:aS s=[]:=List.length_eq_zero_iff.1 (by rw [bL];exact hz)
   have hv:bI s=0:=by simp [bI,e,val]
   refine ⟨0,by rw [hv];rfl,by simpa using h, ?_⟩
   have:=lf (s:=s) (.inl e)
   rw [hv] at this;exact this.symm
 · rw [if_neg hz] at h
   obtain ⟨n,hn⟩:∃n,s.size=n+1:=⟨s.size - 1,by omega⟩
   obtain ⟨b,hb,zn⟩:=jg hn
   rw [hb] at h
   have hb0:0<b.toNat:=by simp at h;omega
   have hm:=lf (rq zn hb0)
   have hp:0<bI s:=by
    rw [bI,zn,jb]
    have:0<256^(aS (s.extract 1 s.size)).length* val 256 [b.toNat]:=Nat.mul_pos (Nat.pow_pos (by decide)) (by simp [val];exact hb0)
    omega
   cases g with
   |true=>exact ⟨-(bI s:Int),by omega,by simp;omega,by rw [show (-(bI s:Int)).natAbs=bI s by omega,hm]⟩
   |false=>exact ⟨(bI s:Int),by omega,by simp,by rw [show ((bI s:Int)).natAbs=bI s by omega,hm]⟩
end Go.Proofs.YtibbgjafjhcemaaGreatDoor.Cul
namespace Go.Proofs.YtibbgjafjhcemaaGreatDoor.Cul
open Go Go.RowKit
theorem m8:aH MD.P t14:=aI
 (ak (ax fun x _=>nj x.1 x.2)
 (ak (ax fun x _=>Cn x.1 x.2)
 (ak (ax fun x h=>xh x h)
 (ak (ax fun n h=>oV n h.1 h.2) aF))))
theorem pX {a b:Nat} (h:af a=af b):a=b:=by
 have:=congrArg bI h
 rwa [fP,fP] at this
theorem beq_toList (u v:ByteArray):(u==v)=(u.data==v.data):=by cases u;cases v;rfl
theorem zY (a b:Nat):(af a==af b)=decide (a=b):=by
 rw [beq_toList]
 by_cases h:a=b
 · subst h;simp
 · rw [decide_eq_false h]
   refine beq_false_of_ne (fun e=>h (pX ?_))
   exact ByteArray.ext e
theorem pY {n:Nat} (h:(af n).size=0):n=0:=by
 have h1:=bP (b:=256) (by decide) n
 have h2:(dg 256 n).length=0:=by rw [←cU,bL,h]
 rw [List.length_eq_zero_iff.1 h2] at h1
 exact h1.symm
theorem AL (z:Int):ou (decide (z<0)) (af z.natAbs)=if z<0 then -1 else if z=0 then 0 else 1:=by
 unfold ou
 rw [lY,if_pos rfl]
 by_cases h0:z=0
 · subst h0;rfl
 · have hs:(af z.natAbs).size≠0:=fun h=>h0 (by have:=pY h;omega)
   rw [if_neg hs]
   by_cases hn:z<0
   · simp [hn]
   · simp [hn,h0]
theorem wT (g:Bool) (s:ByteArray):AK [iz g s]=some (one (iv (ou g s))):=
 aO (a:=(g,s)) (enc:=fun x:Bool×ByteArray=>[iz x.1 x.2]) (fun a b e=>by rw [E3 e]) trivial
theorem jP {n:Int} (h1: -(2^63)≤n) (h2:n<2^63):wO [iv n]=some (one (.ag (zc n))):=
 aO (enc:=fun n:Int=>[iv n]) (fun a b e=>by
  simp only [iv,List.cons.injEq,and_true,PV.lit.injEq,Value.int.injEq,true_and] at e;rw [e]) ⟨h1,h2⟩
theorem Bz {x:au} (h:x.small):GN [.ag (zc x.a++zc x.b++zc x.c++zc x.d), .ag (zc x.n)]=some (one (.ag (zc (x.gcd:Nat)))):=
 aO (enc:=fun x:au=>[.ag (zc x.a++zc x.b++zc x.c++zc x.d), .ag (zc x.n)]) (fun p q e=>by
  obtain ⟨a,b,c,d,n⟩:=p
  obtain ⟨a',b',c',d',n'⟩:=q
  simp only [List.cons.injEq,and_true,PV.ag.injEq] at e
  obtain ⟨e1,e2⟩:=e
  have l:∀z:Int,(zc z).length=2:=fun _=>rfl
  have k1:=List.append_inj e1 (by simp [l])
  have k2:=List.append_inj k1.1 (by simp [l])
  have k3:=List.append_inj k2.1 (by simp [l])
  rw [eE k3.1,eE k3.2,eE k2.2,eE k1.2,eE e2]) h
def au.ok (x:au):Bool:=decide (0<x.n)&&decide (x.gcd=1)
def au.cells (x:au):List PV:=zc x.a++zc x.b++zc x.c++zc x.d++zc x.n
theorem nH (x:au) (h:x.small):az P0 51 [.ag x.cells] (one (bv x.ok)):=by
 have vt:∀z:Int,eU [iz (decide (z<0)) (af z.natAbs)]=some (one (bv true)):=fun z=>by rw [cy,lY]
 have st:=wT (decide (x.n<0)) (af x.n.natAbs)
 rw [AL] at st
 by_cases hn:0<x.n
 · rw [if_neg (by omega),if_neg (by omega)] at st
   have e:x.ok=decide (x.gcd=1):=by simp [au.ok,hn]
   rw [e]
   have hq:=Lu (zY x.gcd 1)
   exact aj ah m8 (by rfl) (Ts 5 _ _ _ _ _ (decide (x.gcd=1)) _ _ _ _ _ (af x.gcd) (af 1) 1) ⟨by omega,rfl,vt x.a,rfl,vt x.b,rfl,vt x.c,rfl,vt x.d,rfl,vt x.n,st,rfl,Bz h,jP (by decide) (by decide),hq,trivial⟩
 · have e:x.ok=false:=by simp [au.ok,hn]
   rw [e]
   exact aj ah m8 (by rfl) (Tr 5 _ _ _ _ _ _ _ _ _ _ _) ⟨by omega,rfl,vt x.a,rfl,vt x.b,rfl,vt x.c,rfl,vt x.d,rfl,vt x.n,st,by split<;>first|rfl|(split<;>first|rfl|omega),trivial⟩
theorem CY (g0 g1 g2 g3 gd:Bool) (s0 s1 s2 s3 sd:ByteArray) (h:(cC g0 s0&&cC g1 s1&&cC g2 s2&&cC g3 s3&&cC gd sd)=false):az P0 51 [.ag [bv g0,sv s0,bv g1,sv s1,bv g2,sv s2,bv g3,sv s3,bv gd,sv sd]] (one (bv false)):=by
 have v0:=cy g0 s0
 have v1:=cy g1 s1
 have v2:=cy g2 s2
 have v3:=cy g3 s3
 have vd:=cy gd sd
 cases h0:cC g0 s0 with
 |false=>rw [h0] at v0;exact aj ah m8 (by rfl) (Tm 5 _ _ _ _ _ _ _ _ _ _) ⟨by omega,rfl,v0,trivial⟩
 |true=>
  rw [h0] at v0
  cases h1:cC g1 s1 with
  |false=>rw [h1] at v1;exact aj ah m8 (by rfl) (Tn 5 _ _ _ _ _ _ _ _ _ _) ⟨by omega,rfl,v0,rfl,v1,trivial⟩
  |true=>
   rw [h1] at v1
   cases h2:cC g2 s2 with
   |false=>rw [h2] at v2;exact aj ah m8 (by rfl) (To 5 _ _ _ _ _ _ _ _ _ _) ⟨by omega,rfl,v0,rfl,v1,rfl,v2,trivial⟩
   |true=>
    rw [h2] at v2
    cases h3:cC g3 s3 with
    |false=>rw [h3] at v3;exact aj ah m8 (by rfl) (Tp 5 _ _ _ _ _ _ _ _ _ _) ⟨by omega,rfl,v0,rfl,v1,rfl,v2,rfl,v3,trivial⟩
    |true=>
     rw [h3] at v3
     cases h4:cC gd sd with
     |false=>rw [h4] at vd;exact aj ah m8 (by rfl) (Tq 5 _ _ _ _ _ _ _ _ _ _) ⟨by omega,rfl,v0,rfl,v1,rfl,v2,rfl,v3,rfl,vd,trivial⟩
     |true=>rw [h0,h1,h2,h3,h4] at h;simp at h
end Go.Proofs.YtibbgjafjhcemaaGreatDoor.Cul
namespace Go.Proofs.YtibbgjafjhcemaaGreatDoor.Cul
open Go Go.RowKit
noncomputable def t16:Cl:=bM [(46,eU)]
theorem Wz (k:Nat) (g:Bool) (s:ByteArray):aA MD t3 k 46 [iz g s] [.c true]=
 some (RV.mk (PV.lit (Value.bool !g)) none,[(s.toList==(ByteArray.mk #[]).toList)=true]):=by kernel_rfl
theorem WA (k b:Nat) (g r:Bool) (s:ByteArray):aA MD t3 k 46 [iz g s] [.c false, .i 11 b, .c r]=
 some (RV.mk (PV.lit (Value.bool r)) none,[(s.toList==(ByteArray.mk #[]).toList)=false,eu s (0:Int) (↑b:Int),((↑b:Int) !=(0:Int))=r]):=by kernel_rfl
theorem Wv (k:Nat) (g:Bool) (s:ByteArray):aA MD t16 k 48 [iz g s] [.r (one (bv false))]=
 some (RV.mk (PV.lit (Value.int IntKind.i64 (0:Int))) none,[aa t16 46 [PV.ag [PV.lit (Value.bool g),PV.lit (Value.string s)]] (RV.mk (PV.lit (Value.bool false)) none)]):=by kernel_rfl
theorem Ww (k:Nat) (g:Bool) (s:ByteArray):aA MD t16 k 48 [iz g s] [.r (one (bv true)), .c true]=
 some (RV.mk (PV.lit (Value.int IntKind.i64 (0:Int))) none,[aa t16 46 [PV.ag [PV.lit (Value.bool g),PV.lit (Value.string s)]] (RV.mk (PV.lit (Value.bool true)) none),(s.toList==(ByteArray.mk #[]).toList)=true]):=by kernel_rfl
theorem Wx (k:Nat) (s:ByteArray):aA MD t16 k 48 [iz true s] [.r (one (bv true)), .c false]=
 some (RV.mk (PV.lit (Value.int IntKind.i64 (-1:Int))) none,[aa t16 46 [PV.ag [PV.lit (Value.bool true),PV.lit (Value.string s)]] (RV.mk (PV.lit (Value.bool true)) none),(s.toList==(ByteArray.mk #[]).toList)=false]):=by kernel_rfl
theorem Wy (k:Nat) (s:ByteArray):aA MD t16 k 48 [iz false s] [.r (one (bv true)), .c false]=
 some (RV.mk (PV.lit (Value.int IntKind.i64 (1:Int))) none,[aa t16 46 [PV.ag [PV.lit (Value.bool false),PV.lit (Value.string s)]] (RV.mk (PV.lit (Value.bool true)) none),(s.toList==(ByteArray.mk #[]).toList)=false]):=by kernel_rfl
theorem Wm (k:Nat) (g:Bool) (s:ByteArray):aA MD t16 k 165 [iz g s] [.r (one (bv false))]=
 some (RV.mk (PV.ag [PV.lit (Value.bool false),PV.lit (Value.string (ByteArray.mk #[]))]) none,[aa t16 46 [PV.ag [PV.lit (Value.bool g),PV.lit (Value.string s)]] (RV.mk (PV.lit (Value.bool false)) none)]):=by kernel_rfl
theorem Wn (k:Nat) (g:Bool) (s:ByteArray):aA MD t16 k 165 [iz g s] [.r (one (bv true)), .c true]=
 some (RV.mk (PV.ag [PV.lit (Value.bool false),PV.lit (Value.string (ByteArray.mk #[]))]) none,[aa t16 46 [PV.ag [PV.lit (Value.bool g),PV.lit (Value.string s)]] (RV.mk (PV.lit (Value.bool true)) none),(s.toList==(ByteArray.mk #[]).toList)=true]):=by kernel_rfl
theorem Wo (k:Nat) (g:Bool) (s:ByteArray):aA MD t16 k 165 [iz g s] [.r (one (bv true)), .c false]=
 some (RV.mk (PV.ag [PV.lit (Value.bool !g),PV.lit (Value.string s)]) none,[aa t16 46 [PV.ag [PV.lit (Value.bool g),PV.lit (Value.string s)]] (RV.mk (PV.lit (Value.bool true)) none),(s.toList==(ByteArray.mk #[]).toList)=false]):=by kernel_rfl
theorem jS (g:Bool) (s:ByteArray):az P0 46 [iz g s] (one (bv (cC g s))):=by
 by_cases h:s.size=0
 · have:=aj ah kf (by rfl) (Wz 1 g s) ⟨by rw [cJ];simpa using h,trivial⟩
   simp only [cC,h,if_true]
   exact this
 · obtain ⟨n,hn⟩:∃n,s.size=n+1:=⟨s.size - 1,by omega⟩
   obtain ⟨b,hb,_⟩:=jg hn
   have e:cC g s=decide (b.toNat≠0):=by
    simp only [cC,h,if_false,hb,Option.map_some,ne_eq,Option.some.injEq]
   rw [e]
   refine aj ah kf (by rfl) (WA 1 b.toNat g (decide (b.toNat≠0)) s) ⟨by rw [cJ];simpa using h,lE hb, ?_,trivial⟩
   by_cases h0:b.toNat=0
   · simp [h0]
   · simp [h0]
theorem m9:aH MD.P t16:=aI (ak (ax fun x _=>jS x.1 x.2) aF)
theorem Ik (g:Bool) (s:ByteArray):az P0 48 [iz g s] (one (iv (ou g s))):=by
 have v:=cy g s
 unfold ou
 cases h:cC g s with
 |false=>rw [h] at v;exact aj ah m9 (by rfl) (Wv 1 g s) ⟨v,trivial⟩
 |true=>
  rw [h] at v
  by_cases hz:s.size=0
  · have:=aj ah m9 (by rfl) (Ww 1 g s) ⟨v,by rw [cJ];simpa using hz,trivial⟩
    simp only [hz,if_true];exact this
  · simp only [hz,if_true,if_false]
    cases g with
    |true=>exact aj ah m9 (by rfl) (Wx 1 s) ⟨v,by rw [cJ];simpa using hz,trivial⟩
    |false=>exact aj ah m9 (by rfl) (Wy 1 s) ⟨v,by rw [cJ];simpa using hz,trivial⟩
theorem KL (g:Bool) (s:ByteArray):az P0 165 [iz g s] (one (oq g s)):=by
 have v:=cy g s
 unfold oq
 cases h:cC g s with
 |false=>rw [h] at v;exact aj ah m9 (by rfl) (Wm 1 g s) ⟨v,trivial⟩
 |true=>
  rw [h] at v
  by_cases hz:s.size=0
  · have:=aj ah m9 (by rfl) (Wn 1 g s) ⟨v,by rw [cJ];simpa using hz,trivial⟩
    have hs:s=⟨#[]⟩:=uq (by
     have e:aS s=[]:=List.length_eq_zero_iff.1 (by rw [bL];exact hz)
     rw [e];rfl)
    have e:iz (!g&& !decide (s.size=0)) s=iz false ⟨#[]⟩:=by rw [show decide (s.size=0)=true by simpa using hz,hs];cases g<;>rfl
    rw [if_pos rfl,e];exact this
  · have:=aj ah m9 (by rfl) (Wo 1 g s) ⟨v,by rw [cJ];simpa using hz,trivial⟩
    have e:iz (!g&& !decide (s.size=0)) s=iz (!g) s:=by simp [hz]
    rw [if_pos rfl,e];exact this
end Go.Proofs.YtibbgjafjhcemaaGreatDoor.Cul
namespace Go.Proofs.YtibbgjafjhcemaaGreatDoor.Cul
theorem uF {b:Nat} (hb:2≤b):∀{n v:Nat},v<b^n→fd b n v=dg b v++List.replicate (n - (dg b v).length) 0
 |0,v,h=>by
  have:v=0:=by simpa using h
  subst this;simp [fd,dH]
 |n+1,v,h=>by
  rcases Nat.eq_zero_or_pos v with rfl|hv
  · rw [wv (by omega),dH];simp
  · have h2:v / b<b^n:=by
      rw [Nat.div_lt_iff_lt_mul (by omega)];rwa [Nat.pow_succ] at h
    rw [dw hb hv]
    show v%b::fd b n (v / b)=_
    rw [uF hb h2]
    simp
theorem lI {x:Nat} (hx:x%2=1) (k y:Nat):Nat.gcd x (2^k* y)=Nat.gcd x y:=by
 have h2:Nat.Coprime 2 x:=by
  show Nat.gcd 2 x=1
  rw [Nat.gcd_rec,hx];rfl
 exact Nat.Coprime.gcd_mul_left_cancel_right y (h2.pow_left k)
theorem zg {x:Nat} (hx:x%2=1) (k y:Nat):Nat.gcd (2^k* y) x=Nat.gcd y x:=by
 rw [Nat.gcd_comm,lI hx,Nat.gcd_comm]
theorem Hf {x y:Nat} (hx:x%2=1) (hy:y%2=1) (n m:Nat):Nat.gcd (2^n* x) (2^m* y)=2^(min n m)* Nat.gcd x y:=by
 rcases Nat.le_total n m with h|h
 · obtain ⟨d,rfl⟩:=Nat.exists_eq_add_of_le h
   rw [Nat.min_eq_left h,Nat.pow_add,Nat.mul_assoc,Nat.gcd_mul_left,lI hx]
 · obtain ⟨d,rfl⟩:=Nat.exists_eq_add_of_le h
   rw [Nat.min_eq_right h,Nat.pow_add,Nat.mul_assoc,Nat.gcd_mul_left,zg hy]
def vT:Nat→Nat→Nat
 |0,_=>0
 |f+1,n=>if n%2=0 then vT f (n / 2)+1 else 0
def tz (n:Nat):Nat:=vT n n
theorem AY:∀{f n:Nat},0<n→n≤f→(n / 2^vT f n)%2=1∧2^vT f n* (n / 2^vT f n)=n
 |0,n,h,k=>by omega
 |f+1,n,h,k=>by
  unfold vT
  by_cases e:n%2=0
  · rw [if_pos e]
    obtain ⟨h1,h2⟩:=AY (f:=f) (n:=n / 2) (by omega) (by omega)
    have e2:n / 2^(vT f (n / 2)+1)=n / 2 / 2^vT f (n / 2):=by
     rw [Nat.pow_succ,Nat.mul_comm,Nat.div_div_eq_div_mul]
    rw [e2]
    refine ⟨h1, ?_⟩
    rw [Nat.pow_succ,Nat.mul_comm (2^vT f (n / 2)) 2,Nat.mul_assoc,h2];omega
  · rw [if_neg e];simp;omega
def od (n:Nat):Nat:=n / 2^tz n
theorem jn {n:Nat} (h:0<n):od n%2=1:=(AY h (Nat.le_refl n)).1
theorem vh {n:Nat} (h:0<n):2^tz n* od n=n:=(AY h (Nat.le_refl n)).2
theorem M5 {n:Nat} (h:0<n):0<od n:=by have:=jn h;omega
theorem su {n:Nat} (h:0<n):od n≤n:=Nat.div_le_self _ _
theorem zf {x y:Nat} (hx:x%2=1) (hy:0<y):Nat.gcd x (od y)=Nat.gcd x y:=by
 conv=>rhs;rw [←vh hy]
 exact (lI hx _ _).symm
theorem pP {x y:Nat} (hx:x%2=1) (h:x<y):Nat.gcd x (od (y - x))=Nat.gcd x y:=by
 rw [zf hx (by omega)]
 exact Nat.gcd_sub_self_right (by omega)
theorem Kg {x y:Nat} (hx:0<x) (hy:0<y):Nat.gcd x y=2^(min (tz x) (tz y))* Nat.gcd (od x) (od y):=by
 conv=>lhs;rw [←vh hx,←vh hy]
 exact Hf (jn hx) (jn hy) _ _
def shr (k:Nat):List Nat→List Nat
 |[]=>[]
 |[x]=>[x / 2^k]
 |x::y::l=>(x / 2^k+y* 2^(24 - k)%2^24)::shr k (y::l)
theorem gx (k:Nat):∀l,(shr k l).length=l.length
 |[]=>rfl
 |[x]=>rfl
 |x::y::l=>by simp [shr,gx k (y::l)]
theorem Ci {k y:Nat} (hk:k≤24):y* 2^(24 - k)%2^24=y%2^k* 2^(24 - k):=by
 have e:(2:Nat)^24=2^k* 2^(24 - k):=by rw [←Nat.pow_add];congr 1;omega
 rw [e,Nat.mul_mod_mul_right]
theorem Cm {k:Nat} (hk:k≤24):∀(x:Nat) (l:List Nat),2^k* val (2^24) (shr k (x::l))+x%2^k=val (2^24) (x::l)
 |x,[]=>by simp only [shr,val];have:=Nat.div_add_mod x (2^k);omega
 |x,y::l=>by
  have ih:=Cm hk y l
  simp only [shr]
  rw [Ci hk]
  have e:(2:Nat)^24=2^k* 2^(24 - k):=by rw [←Nat.pow_add];congr 1;omega
  have h1:=Nat.div_add_mod x (2^k)
  show 2^k* (x / 2^k+y%2^k* 2^(24 - k)+2^24* val (2^24) (shr k (y::l)))+x%2^k=x+2^24* val (2^24) (y::l)
  rw [←ih,Nat.mul_add,Nat.mul_add,Nat.mul_add]
  have h2:2^k* (y%2^k* 2^(24 - k))=2^24* (y%2^k):=by rw [e,Nat.mul_comm (y%2^k),Nat.mul_assoc]
  have h3:2^k* (2^24* val (2^24) (shr k (y::l)))=2^24* (2^k* val (2^24) (shr k (y::l))):=Nat.mul_left_comm _ _ _
  rw [h2,h3];omega
theorem Cj {k:Nat} (hk:k≤24):∀{l:List Nat},aZ (2^24) l→aZ (2^24) (shr k l)
 |[],_=>by simp [shr,aZ]
 |[x],h=>by
  intro z hz
  simp only [shr,List.mem_singleton] at hz
  subst hz
  exact Nat.lt_of_le_of_lt (Nat.div_le_self _ _) h.head
 |x::y::l,h=>by
  intro z hz
  simp only [shr,List.mem_cons] at hz
  rcases hz with rfl|hz
  · rw [Ci hk]
    have hx:=h.head
    have e:(2:Nat)^24=2^(24 - k)* 2^k:=by rw [←Nat.pow_add];congr 1;omega
    have h1:x / 2^k<2^(24 - k):=by
     rw [Nat.div_lt_iff_lt_mul (Nat.pow_pos (by omega)),←e];exact hx
    have h2:y%2^k<2^k:=Nat.mod_lt _ (Nat.pow_pos (by omega))
    have h3:(y%2^k+1)* 2^(24 - k)≤2^k* 2^(24 - k):=Nat.mul_le_mul_right _ h2
    rw [Nat.add_mul,Nat.mul_comm (2^k),←e] at h3
    omega
  · exact Cj hk h.tail z hz
theorem Ck {k:Nat}:∀{l:List Nat} {i x:Nat},l[i]? =some x→(shr k l)[i]? =some (x / 2^k+(match l[i+1]? with|some y=>y* 2^(24 - k)%2^24|none=>0))
 |[],i,x,h=>by simp at h
 |[z],0,x,h=>by simp at h;subst h;simp [shr]
 |[z],i+1,x,h=>by simp at h
 |z::y::l,0,x,h=>by simp at h;subst h;simp [shr]
 |z::y::l,i+1,x,h=>by
  simp only [shr,List.getElem?_cons_succ] at h ⊢
  exact Ck h
end Go.Proofs.YtibbgjafjhcemaaGreatDoor.Cul
namespace Go.Proofs.YtibbgjafjhcemaaGreatDoor.Cul
open Go Go.RowKit
section
variable {c:Nat→PV}
theorem Oz {l:List Nat} {i x:Nat} (h:l[i]? =some x):row (l.map c) 1 i=[c x]:=by
 have hi:=gi h
 have:(l.map c)[i]? =some (c x):=by simp [h]
 simp only [row,Nat.mul_one]
 rw [List.drop_eq_getElem_cons (by simpa using hi),List.take_succ_cons,List.take_zero]
 congr 1
 simpa [List.getElem?_eq_getElem (show i<(l.map c).length by simpa using hi)] using this
theorem jR {l:List Nat} {i x:Nat} {n:Int} (h:l[i]? =some x) (hn:n=(i:Int)):aK (l.map c) 1 n l.length [c x]:=by
 have hi:=gi h
 subst hn
 exact ⟨⟨by omega,by omega⟩,by rw [Int.toNat_natCast];exact Oz h⟩
theorem o7 (l:List Nat) (a n:Nat) {m:List Nat} (h:(l.drop a).take n=m):cF (l.map c) a n (m.map c):=by
 show ((l.map c).drop a).take n=m.map c
 rw [←List.map_drop,←List.map_take,h]
theorem MI {P:Program} {T:TypeId} (hs:bT P T=some 1) (hr:ep P T=false) (hu:(P.underlying T).isSome=true) {l:List Nat} {o i x:Nat} (h:l[i]? =some x) (ho:o=i):Ld P T (l.map c) o (c x):=by
 subst ho
 have:=gi h
 show ek P T (l.map c) o=some (c x)
 simp only [ek,hs,Option.bind_some,hr,hu]
 rw [if_pos (by rw [List.length_map];omega)]
 simp [h]
theorem l9 {l m:List Nat} {o i y:Nat} (h:l.set i y=m) (hi:i<l.length) (ho:o=i):bZ (l.map c) o [c y] (m.map c):=by
 subst ho h
 show splice (l.map c) o [c y]=(l.set o y).map c
 simp only [splice,List.map_set,List.length_singleton]
 rw [List.set_eq_take_append_cons_drop,if_pos (by simpa using hi),List.append_assoc];rfl
theorem kO {n:Nat}:fC [c 0] n ((List.replicate n 0).map c):=by
 show bl _ n=_
 induction n with
 |zero=>rfl
 |succ n ih=>simp only [bl,List.replicate_succ,List.map_cons] at ih ⊢;rw [ih];rfl
theorem Fb (h:∀x,cH (c x)=true) (l:List Nat):(l.map c).all cH=true:=by
 rw [List.all_map,List.all_eq_true];intro x _;exact h x
end
def aE (x:Nat):PV:=iv x
def ni (l:List Nat):PV:= .sl 1 l.length (l.map aE)
theorem JI:bT MD.P 3=some 1:=by kernel_rfl
theorem Nr:ep MD.P 3=false:=by kernel_rfl
theorem NX:(MD.P.underlying 3).isSome=true:=by kernel_rfl
theorem D4:MD.P.bytesOf 3=8:=by kernel_rfl
theorem OE:bT MD.P 5=some 1:=by kernel_rfl
theorem RS:ep MD.P 5=false:=by kernel_rfl
theorem Sb:(MD.P.underlying 5).isSome=true:=by kernel_rfl
theorem D5:MD.P.bytesOf 5=1:=by kernel_rfl
theorem pS {l:List Nat} {o i x:Nat} (h:l[i]? =some x) (ho:o=i):Ld MD.P 3 (l.map aE) o (aE x):=MI JI Nr NX h ho
theorem Db {l:List Nat} {o i x:Nat} (h:l[i]? =some x) (ho:o=i):Ld MD.P 5 (l.map bt) o (bt x):=MI OE RS Sb h ho
theorem tP {l m:List Nat} (h:l.map aE=m.map aE):l=m:=by
 refine (List.map_inj_right ?_).1 h
 intro x y e
 simp only [aE,iv,PV.lit.injEq,Value.int.injEq,true_and] at e;omega
theorem rA {l m:List Nat} (h:ni l=ni m):l=m:=by
 simp only [ni,PV.sl.injEq] at h
 exact tP h.2.2
theorem dL {a b:Int} (h:iv a=iv b):a=b:=by simpa [iv] using h
theorem D3 {a b:Bool} (h:bv a=bv b):a=b:=by simpa [bv] using h
theorem pL {a b:Nat} (h:dg (16777216:Nat) a=dg (16777216:Nat) b):a=b:=by
 have:=congrArg (val (16777216:Nat)) h
 rwa [bP (by decide),bP (by decide)] at this
theorem AM {x r:Nat} {k:Int} (hk:k=(r:Int)) (hr:r<64):(x:Int).fdiv (2^min k.toNat IntKind.i64.bits)=((x / 2^r:Nat):Int):=by
 subst hk
 have e:min ((r:Int).toNat) IntKind.i64.bits=r:=by rw [Int.toNat_natCast];show min r 64=r;omega
 rw [e,Int.fdiv_eq_ediv_of_nonneg _ (by exact_mod_cast Nat.zero_le _)]
 norm_cast
theorem OM (a:Nat):IntKind.u8.wrap (a:Int)=((a%256:Nat):Int):=by
 unfold IntKind.wrap IntKind.bits IntKind.signed
 simp only
 have e1:(2:Int)^8=256:=by decide
 rw [e1];simp
end Go.Proofs.YtibbgjafjhcemaaGreatDoor.Cul
namespace Go.Proofs.YtibbgjafjhcemaaGreatDoor.Cul
open Go Go.RowKit
noncomputable def t17:Cl:=bM []
theorem XR (k n m:Nat) (cs ds es fs:List PV) (s:ByteArray) (o:Nat):aA MD t17 k 139 [.sl 1 n cs] [.i 7 (3* n:Nat), .c false, .f ds, .l (.exit 0) ⟨[(0, .pv (.sl 1 n cs)),(3, .bs 8 0 1 (3* n)),(4, .pv (iv (3* n:Nat))),(12, .pv (bv false))],[(8,es)],[],[]⟩, .l (.exit 2) ⟨[(3, .bs 8 0 1 m),(40, .pv (bv false))],[(8,es)],[],[]⟩, .f fs, .w 44 s]=
 some (RV.mk (PV.lit (Value.string s)) none,[IntKind.i64.wrap ((3:Int)* (↑n:Int))=(↑((3:Nat)* n):Int),(0:Int)≤(↑((3:Nat)* n):Int)∧(↑((3:Nat)* n):Int)≤(↑((3:Nat)* n):Int)∧(↑((3:Nat)* n):Int)* (↑(MD.P.bytesOf (5:Nat)):Int)≤(↑room:Int)∧(↑((3:Nat)* n):Int)≤(↑room:Int),decide ((↑((3:Nat)* n):Int)=(0:Int))=false,fC [PV.lit (Value.int IntKind.u8 (0:Int))] (↑((3:Nat)* n):Int).toNat ds,aX MD t17 k (139:Nat) (0:Nat) (St.mk [(0,AV.pv (PV.sl 1 n cs)),(3,AV.bs 8 0 1 (↑((3:Nat)* n):Int).toNat),(4,AV.pv (PV.lit (Value.int IntKind.i64 (0:Int))))] [(8,ds)] [] []) (Xt.exit 0) (St.mk [(0,AV.pv (PV.sl 1 n cs)),(3,AV.bs 8 0 1 ((3:Nat)* n)),(4,AV.pv (PV.lit (Value.int IntKind.i64 (↑((3:Nat)* n):Int)))),(12,AV.pv (PV.lit (Value.bool false)))] [(8,es)] [] []),aX MD t17 k (139:Nat) (1:Nat) (St.mk [(0,AV.pv (PV.sl 1 n cs)),(3,AV.bs 8 0 1 ((3:Nat)* n)),(4,AV.pv (PV.lit (Value.int IntKind.i64 (↑((3:Nat)* n):Int)))),(12,AV.pv (PV.lit (Value.bool false)))] [(8,es)] [] []) (Xt.exit 2) (St.mk [(3,AV.bs 8 0 1 m),(40,AV.pv (PV.lit (Value.bool false)))] [(8,es)] [] []),cF es 0 (m* (1:Nat)) fs,jv fs s]):=by kernel_rfl
theorem XS (k n m:Nat) (cs ds es fs:List PV) (s:ByteArray) (o:Nat):aA MD t17 k 139 [.sl 1 n cs] [.i 7 (3* n:Nat), .c false, .f ds, .l (.exit 0) ⟨[(0, .pv (.sl 1 n cs)),(3, .bs 8 0 1 (3* n)),(4, .pv (iv (3* n:Nat))),(12, .pv (bv false))],[(8,es)],[],[]⟩, .l (.exit 2) ⟨[(3, .bs 8 (o+1) 1 m),(40, .pv (bv false))],[(8,es)],[],[]⟩, .f fs, .w 44 s]=
 some (RV.mk (PV.lit (Value.string s)) none,[IntKind.i64.wrap ((3:Int)* (↑n:Int))=(↑((3:Nat)* n):Int),(0:Int)≤(↑((3:Nat)* n):Int)∧(↑((3:Nat)* n):Int)≤(↑((3:Nat)* n):Int)∧(↑((3:Nat)* n):Int)* (↑(MD.P.bytesOf (5:Nat)):Int)≤(↑room:Int)∧(↑((3:Nat)* n):Int)≤(↑room:Int),decide ((↑((3:Nat)* n):Int)=(0:Int))=false,fC [PV.lit (Value.int IntKind.u8 (0:Int))] (↑((3:Nat)* n):Int).toNat ds,aX MD t17 k (139:Nat) (0:Nat) (St.mk [(0,AV.pv (PV.sl 1 n cs)),(3,AV.bs 8 0 1 (↑((3:Nat)* n):Int).toNat),(4,AV.pv (PV.lit (Value.int IntKind.i64 (0:Int))))] [(8,ds)] [] []) (Xt.exit 0) (St.mk [(0,AV.pv (PV.sl 1 n cs)),(3,AV.bs 8 0 1 ((3:Nat)* n)),(4,AV.pv (PV.lit (Value.int IntKind.i64 (↑((3:Nat)* n):Int)))),(12,AV.pv (PV.lit (Value.bool false)))] [(8,es)] [] []),aX MD t17 k (139:Nat) (1:Nat) (St.mk [(0,AV.pv (PV.sl 1 n cs)),(3,AV.bs 8 0 1 ((3:Nat)* n)),(4,AV.pv (PV.lit (Value.int IntKind.i64 (↑((3:Nat)* n):Int)))),(12,AV.pv (PV.lit (Value.bool false)))] [(8,es)] [] []) (Xt.exit 2) (St.mk [(3,AV.bs 8 (o+(1:Nat)) 1 m),(40,AV.pv (PV.lit (Value.bool false)))] [(8,es)] [] []),cF es (o+(1:Nat)) (m* (1:Nat)) fs,jv fs s]):=by kernel_rfl
theorem XT (k n i x y z:Nat) (cs es es':List PV):ay MD t17 k 139 0 ⟨[(0, .pv (.sl 1 n cs)),(3, .bs 8 0 1 (3* n)),(4, .pv (iv i))],[(8,es)],[],[]⟩ [.c true, .i 18 (3* n - 1:Nat), .i 20 (3* n - 1 - i:Nat), .i 23 (i / 3:Nat), .a 24 [iv x], .i 27 (i%3:Nat), .i 28 (8* (i%3):Nat), .i 29 y, .i 30 z, .j 31 (3* n - 1 - i), .s es', .i 14 (i+1:Nat)]=
 some ((Xt.normal,St.mk [(0,AV.pv (PV.sl 1 n cs)),(3,AV.bs 8 0 1 ((3:Nat)* n)),(4,AV.pv (PV.lit (Value.int IntKind.i64 (↑(i+(1:Nat)):Int))))] [(8,es')] [] []),[],[decide ((↑i:Int)<(↑((3:Nat)* n):Int))=true,IntKind.i64.wrap ((↑((3:Nat)* n):Int) - (1:Int))=(↑((3:Nat)* n - (1:Nat)):Int),IntKind.i64.wrap ((↑((3:Nat)* n - (1:Nat)):Int) - (↑i:Int))=(↑((3:Nat)* n - (1:Nat) - i):Int),IntKind.i64.wrap ((↑i:Int).tdiv (3:Int))=(↑(i / (3:Nat)):Int),false=false,aK cs 1 (↑(i / (3:Nat)):Int) n [PV.lit (Value.int IntKind.i64 (↑x:Int))],(↑i:Int).tmod (3:Int)=(↑(i%(3:Nat)):Int),false=false,IntKind.i64.wrap ((8:Int)* (↑(i%(3:Nat)):Int))=(↑((8:Nat)* (i%(3:Nat))):Int),(↑x:Int).fdiv ((2:Int)^min (↑((8:Nat)* (i%(3:Nat))):Int).toNat IntKind.i64.bits)=(↑y:Int),decide ((↑((8:Nat)* (i%(3:Nat))):Int)<(0:Int))=false,IntKind.u8.wrap (↑y:Int)=(↑z:Int),aJ (↑((3:Nat)* n - (1:Nat) - i):Int) ((3:Nat)* n) ((3:Nat)* n - (1:Nat) - i),(0:Nat)+((3:Nat)* n - (1:Nat) - i)* (1:Nat)+(PV.lit (Value.int IntKind.u8 (↑z:Int))).cells.length≤es.length,bZ es ((0:Nat)+((3:Nat)* n - (1:Nat) - i)* (1:Nat)) [PV.lit (Value.int IntKind.u8 (↑z:Int))] es',IntKind.i64.wrap ((↑i:Int)+(1:Int))=(↑(i+(1:Nat)):Int)]):=by kernel_rfl
theorem XU (k n i:Nat) (cs es:List PV):ay MD t17 k 139 0 ⟨[(0, .pv (.sl 1 n cs)),(3, .bs 8 0 1 (3* n)),(4, .pv (iv i))],[(8,es)],[],[]⟩ [.c false]=
 some ((Xt.exit 0,St.mk [(0,AV.pv (PV.sl 1 n cs)),(3,AV.bs 8 0 1 ((3:Nat)* n)),(4,AV.pv (PV.lit (Value.int IntKind.i64 (↑i:Int)))),(12,AV.pv (PV.lit (Value.bool false)))] [(8,es)] [] []),[],[decide ((↑i:Int)<(↑((3:Nat)* n):Int))=false]):=by kernel_rfl
theorem XV (k o m:Nat) (es:List PV):ay MD t17 k 139 1 ⟨[(3, .bs 8 o 1 m)],[(8,es)],[],[]⟩ [.c false]=
 some ((Xt.exit 2,St.mk [(3,AV.bs 8 o 1 m),(40,AV.pv (PV.lit (Value.bool false)))] [(8,es)] [] []),[],[decide ((↑m:Int)>(0:Int))=false]):=by kernel_rfl
theorem XW (k o m x:Nat) (es:List PV):ay MD t17 k 139 1 ⟨[(3, .bs 8 o 1 m)],[(8,es)],[],[]⟩ [.c true, .j 37 0, .e 38 (bt x), .c false]=
 some ((Xt.exit 2,St.mk [(3,AV.bs 8 o 1 m),(40,AV.pv (PV.lit (Value.bool false)))] [(8,es)] [] []),[],[decide ((↑m:Int)>(0:Int))=true,aJ (0:Int) m 0,Ld MD.P 5 es o (PV.lit (Value.int IntKind.u8 (↑x:Int))),((↑x:Int)==(0:Int))=false]):=by kernel_rfl
theorem XX (k o m x:Nat) (es:List PV):ay MD t17 k 139 1 ⟨[(3, .bs 8 o 1 m)],[(8,es)],[],[]⟩ [.c true, .j 37 0, .e 38 (bt x), .c true, .o 42 (o+1) (m - 1)]=
 some ((Xt.normal,St.mk [(3,AV.bs 8 (o+(1:Nat)) 1 (m - (1:Nat)))] [(8,es)] [] []),[],[decide ((↑m:Int)>(0:Int))=true,aJ (0:Int) m 0,Ld MD.P 5 es o (PV.lit (Value.int IntKind.u8 (↑x:Int))),((↑x:Int)==(0:Int))=true,(0:Int)≤(1:Int)∧(1:Int)≤(↑m:Int)∧(↑m:Int)≤(↑m:Int),o+Int.toNat (1:Int)* (1:Nat)=o+(1:Nat),(↑m:Int).toNat - Int.toNat (1:Int)=m - (1:Nat)]):=by kernel_rfl
theorem XY (k o m:Nat) (p q r:PV) (es:List PV):ay MD t17 k 139 1 ⟨[(0, .pv p),(3, .bs 8 o 1 m),(4, .pv q),(12, .pv r)],[(8,es)],[],[]⟩ [.c false]=
 some ((Xt.exit 2,St.mk [(3,AV.bs 8 o 1 m),(40,AV.pv (PV.lit (Value.bool false)))] [(8,es)] [] []),[],[decide ((↑m:Int)>(0:Int))=false]):=by kernel_rfl
theorem XZ (k o m x:Nat) (p q r:PV) (es:List PV):ay MD t17 k 139 1 ⟨[(0, .pv p),(3, .bs 8 o 1 m),(4, .pv q),(12, .pv r)],[(8,es)],[],[]⟩ [.c true, .j 37 0, .e 38 (bt x), .c false]=
 some ((Xt.exit 2,St.mk [(3,AV.bs 8 o 1 m),(40,AV.pv (PV.lit (Value.bool false)))] [(8,es)] [] []),[],[decide ((↑m:Int)>(0:Int))=true,aJ (0:Int) m 0,Ld MD.P 5 es o (PV.lit (Value.int IntKind.u8 (↑x:Int))),((↑x:Int)==(0:Int))=false]):=by kernel_rfl
theorem X0 (k o m x:Nat) (p q r:PV) (es:List PV):ay MD t17 k 139 1 ⟨[(0, .pv p),(3, .bs 8 o 1 m),(4, .pv q),(12, .pv r)],[(8,es)],[],[]⟩ [.c true, .j 37 0, .e 38 (bt x), .c true, .o 42 (o+1) (m - 1)]=
 some ((Xt.normal,St.mk [(3,AV.bs 8 (o+(1:Nat)) 1 (m - (1:Nat)))] [(8,es)] [] []),[],[decide ((↑m:Int)>(0:Int))=true,aJ (0:Int) m 0,Ld MD.P 5 es o (PV.lit (Value.int IntKind.u8 (↑x:Int))),((↑x:Int)==(0:Int))=true,(0:Int)≤(1:Int)∧(1:Int)≤(↑m:Int)∧(↑m:Int)≤(↑m:Int),o+Int.toNat (1:Int)* (1:Nat)=o+(1:Nat),(↑m:Int).toNat - Int.toNat (1:Int)=m - (1:Nat)]):=by kernel_rfl
theorem X1 (k:Nat) (s:ByteArray):aA MD t17 k 139 [.sl 1 0 []] [.i 7 0, .c true, .u 1, .c false, .u 1, .c false, .w 44 s]=
 some (RV.mk (PV.lit (Value.string s)) none,[(0:Int)=(0:Int),(0:Int)≤(0:Int)∧(0:Int)≤(0:Int)∧(0:Int)* (↑(MD.P.bytesOf (5:Nat)):Int)≤(↑room:Int)∧(0:Int)≤(↑room:Int),true=true,(1:Nat)≤k,false=false,(1:Nat)≤k,false=false,jv [] s]):=by kernel_rfl
theorem JX (v i:Nat):(v / (16777216:Nat)^(i / 3)%(16777216:Nat)) / 2^(8* (i%3))%256=v / 256^i%256:=by
 have hr:i%3<3:=Nat.mod_lt _ (by decide)
 have e1:(16777216:Nat)^(i / 3)=2^(24* (i / 3)):=by rw [Nat.pow_mul]
 have e2:256^i=2^(24* (i / 3))* 2^(8* (i%3)):=by
  rw [←Nat.pow_add,show (256:Nat)=2^8 by decide,←Nat.pow_mul];congr 1;omega
 have e3:(16777216:Nat)=2^(8* (i%3))* 2^(24 - 8* (i%3)):=by
  rw [←Nat.pow_add,show 8* (i%3)+(24 - 8* (i%3))=24 by omega]
 rw [e1,e2,←Nat.div_div_eq_div_mul]
 generalize v / 2^(24* (i / 3))=u
 rw [e3,Nat.mod_mul_right_div_self]
 refine Nat.mod_mod_of_dvd _ ?_
 rw [show (256:Nat)=2^8 by decide]
 exact Nat.pow_dvd_pow 2 (by omega)
def es (N v i:Nat):List Nat:=(List.range N).map fun p=>if N - 1 - p<i then v / 256^(N - 1 - p)%256 else 0
theorem mJ (N v i:Nat):(es N v i).length=N:=by simp [es]
theorem uD {N v i p:Nat} (h:p<N):(es N v i)[p]? =some (if N - 1 - p<i then v / 256^(N - 1 - p)%256 else 0):=by
 simp [es,h]
theorem Ka (N v:Nat):es N v 0=List.replicate N 0:=by
 apply List.ext_getElem?
 intro p
 by_cases h:p<N
 · rw [uD h];simp [h]
 · rw [List.getElem?_eq_none (by rw [mJ];omega),List.getElem?_eq_none (by simp;omega)]
theorem J9 {N v i:Nat} (h:i<N):(es N v i).set (N - 1 - i) (v / 256^i%256)=es N v (i+1):=by
 apply List.ext_getElem?
 intro p
 by_cases hp:p<N
 · rw [List.getElem?_set,uD hp,uD hp,mJ]
   by_cases e:N - 1 - i=p
   · have:N - 1 - p=i:=by omega
     rw [if_pos e,if_pos (by omega),this,if_pos (by omega)]
   · rw [if_neg e]
     have:N - 1 - p<i↔N - 1 - p<i+1:=by omega
     simp only [this]
 · rw [List.getElem?_eq_none (by rw [List.length_set,mJ];omega),List.getElem?_eq_none (by rw [mJ];omega)]
theorem Lw (N v:Nat):es N v N=(fd 256 N v).reverse:=by
 apply List.ext_getElem?
 intro p
 by_cases hp:p<N
 · rw [uD hp,if_pos (by omega),List.getElem?_reverse (by rw [bE];exact hp),bE,gU (by omega)]
 · rw [List.getElem?_eq_none (by rw [mJ];omega),List.getElem?_eq_none (by simp [bE];omega)]
theorem II (k i n v:Nat) (hi:i<3* n) (hn:n<2^40):aU MD t17 k 139 0 ⟨[(0, .pv (ni (fd (16777216:Nat) n v))),(3, .bs 8 0 1 (3* n)),(4, .pv (iv i))],[(8,(es (3* n) v i).map bt)],[],[]⟩=some (.normal,⟨[(0, .pv (ni (fd (16777216:Nat) n v))),(3, .bs 8 0 1 (3* n)),(4, .pv (iv (i+1:Nat)))],[(8,(es (3* n) v (i+1)).map bt)],[],[]⟩):=by
 have hx:(fd (16777216:Nat) n v)[i / 3]? =some (v / (16777216:Nat)^(i / 3)%(16777216:Nat)):=gU (by omega)
 have hr:=jR (c:=aE) hx (n:=((i / 3:Nat):Int)) rfl
 have hl:(fd (16777216:Nat) n v).length=n:=bE _ _ _
 have hxl:v / (16777216:Nat)^(i / 3)%(16777216:Nat)<(16777216:Nat):=Nat.mod_lt _ (by decide)
 have key:=XT k n i (v / (16777216:Nat)^(i / 3)%(16777216:Nat)) ((v / (16777216:Nat)^(i / 3)%(16777216:Nat)) / 2^(8* (i%3))) (v / 256^i%256) ((fd (16777216:Nat) n v).map aE) ((es (3* n) v i).map bt) ((es (3* n) v (i+1)).map bt)
 simp only [ni,hl] at hr ⊢
 have h1:IntKind.i64.wrap ((i:Int).tdiv 3)=((i / 3:Nat):Int):=aR (gP i 3) (by omega)
 have h2:(i:Int).tmod 3=((i%3:Nat):Int):=fQ i 3
 have h3:=AM (x:=v / (16777216:Nat)^(i / 3)%(16777216:Nat)) (r:=8* (i%3)) (k:=((8* (i%3):Nat):Int)) rfl (by omega)
 have h4:IntKind.u8.wrap (((v / (16777216:Nat)^(i / 3)%(16777216:Nat)) / 2^(8* (i%3)):Nat):Int)=((v / 256^i%256:Nat):Int):=by rw [←JX];exact OM _
 have h5:bZ ((es (3* n) v i).map bt) (0+(3* n - 1 - i)* 1) [bt (v / 256^i%256)] ((es (3* n) v (i+1)).map bt):=l9 (J9 hi) (by rw [mJ];omega) (by omega)
 have h6:0+(3* n - 1 - i)* 1+(bt (v / 256^i%256)).cells.length≤((es (3* n) v i).map bt).length:=by
  rw [List.length_map,mJ]
  show _+1≤_
  omega
 exact aq key ⟨decide_eq_true (by omega),aR (by omega) (by omega),aR (by omega) (by omega),h1,rfl,hr,h2,rfl,aR (by omega) (by omega),h3,decide_eq_false (by omega),h4,⟨rfl,by omega⟩,h6,h5,aR (by omega) (by omega),trivial⟩
theorem lP {v:Nat}:(af v).size=(dg 256 v).length:=by rw [←cU,bL]
theorem yX {v:Nat} (h:(dg 256 v).reverse≠[]):∃x l,(dg 256 v).reverse=x::l∧0<x:=by
 have hv:0<v:=by
  rcases Nat.eq_zero_or_pos v with rfl|h'
  · simp [dH] at h
  · exact h'
 obtain ⟨m,x,h1,h2,_⟩:=BC (b:=256) (by decide) hv
 exact ⟨x,m.reverse,by rw [h1];simp,h2⟩
theorem Cy (k z v:Nat) (hb:z+(dg 256 v).length<2^50):∀j o,o+j=z→bh (aU MD t17 k 139 1) (j+1) ⟨[(3, .bs 8 o 1 (j+(dg 256 v).length))],[(8,(List.replicate z 0++(dg 256 v).reverse).map bt)],[],[]⟩=some (.exit 2,⟨[(3, .bs 8 z 1 (dg 256 v).length),(40, .pv (bv false))],[(8,(List.replicate z 0++(dg 256 v).reverse).map bt)],[],[]⟩)
 |0,o,h=>by
  have ho:o=z:=by omega
  subst ho
  rw [Nat.zero_add,Nat.zero_add]
  by_cases e:(dg 256 v).reverse=[]
  · have el:(dg 256 v).length=0:=by simpa using e
    rw [el]
    exact aW (aq (XV k o 0 _) ⟨rfl,trivial⟩) (by simp)
  · obtain ⟨x,l,e1,hx⟩:=yX e
    have el:(dg 256 v).length=l.length+1:=by
     have:=congrArg List.length e1;simpa using this
    have hg:(List.replicate o 0++(dg 256 v).reverse)[o]? =some x:=by
     rw [e1,List.getElem?_append_right (by simp)];simp
    refine aW (aq (XW k o _ x _) ⟨?_,⟨rfl,by omega⟩,Db hg (by omega), ?_,trivial⟩) (by simp)
    · exact decide_eq_true (by omega)
    · exact beq_false_of_ne (by omega)
 |j+1,o,h=>by
  have hg:(List.replicate z 0++(dg 256 v).reverse)[o]? =some 0:=by
   rw [List.getElem?_append_left (by simp;omega),List.getElem?_replicate,if_pos (by omega)]
  have key:=XX k o (j+1+(dg 256 v).length) 0 ((List.replicate z 0++(dg 256 v).reverse).map bt)
  rw [show j+1+(dg 256 v).length - 1=j+(dg 256 v).length by omega] at key
  exact bz (aq key ⟨by simp;omega,⟨rfl,by omega⟩,Db hg (by omega),rfl,⟨by omega,by omega,by omega⟩,by simp,by omega,trivial⟩) (Cy k z v hb j (o+1) (by omega))
theorem K3 (k z v:Nat) (p q r:PV) (hb:z+(dg 256 v).length<2^50):bh (aU MD t17 k 139 1) (z+1) ⟨[(0, .pv p),(3, .bs 8 0 1 (z+(dg 256 v).length)),(4, .pv q),(12, .pv r)],[(8,(List.replicate z 0++(dg 256 v).reverse).map bt)],[],[]⟩=some (.exit 2,⟨[(3, .bs 8 z 1 (dg 256 v).length),(40, .pv (bv false))],[(8,(List.replicate z 0++(dg 256 v).reverse).map bt)],[],[]⟩):=by
 cases z with
 |zero=>
  rw [Nat.zero_add,Nat.zero_add]
  by_cases e:(dg 256 v).reverse=[]
  · have el:(dg 256 v).length=0:=by simpa using e
    rw [el]
    exact aW (aq (XY k 0 0 p q r _) ⟨rfl,trivial⟩) (by simp)
  · obtain ⟨x,l,e1,hx⟩:=yX e
    have el:(dg 256 v).length=l.length+1:=by
     have:=congrArg List.length e1;simpa using this
    have hg:(List.replicate 0 0++(dg 256 v).reverse)[0]? =some x:=by
     rw [e1];rfl
    refine aW (aq (XZ k 0 _ x p q r _) ⟨?_,⟨rfl,by omega⟩,Db hg (by omega), ?_,trivial⟩) (by simp)
    · exact decide_eq_true (by omega)
    · exact beq_false_of_ne (by omega)
 |succ j=>
  have hg:(List.replicate (j+1) 0++(dg 256 v).reverse)[0]? =some 0:=by
   rw [List.getElem?_append_left (by simp)]
   simp
  have key:=X0 k 0 (j+1+(dg 256 v).length) 0 p q r ((List.replicate (j+1) 0++(dg 256 v).reverse).map bt)
  rw [show j+1+(dg 256 v).length - 1=j+(dg 256 v).length by omega] at key
  exact bz (aq key ⟨by simp;omega,⟨rfl,by omega⟩,Db hg (by omega),rfl,⟨by omega,by omega,by omega⟩,by simp,by omega,trivial⟩) (Cy k (j+1) v hb j (0+1) (by omega))
theorem xg (v:Nat):jv ((dg 256 v).reverse.map bt) (af v):=by
 have:=oc (dg 256 v).reverse
 unfold sO at this
 show (bytesOf ((dg 256 v).reverse.map bt)).map _=_
 rw [this];rfl
theorem FG (l:List Nat) (h:l.length<2^40) (hd:aZ (16777216:Nat) l):az P0 139 [ni l] (one (sv (af (val (16777216:Nat) l)))):=by
 obtain ⟨v,hv⟩:∃v,v=val (16777216:Nat) l:=⟨_,rfl⟩
 rw [←hv]
 have el:l=fd (16777216:Nat) l.length v:=iW (by decide) hd rfl hv.symm
 obtain ⟨n,hn⟩:∃n,n=l.length:=⟨_,rfl⟩
 rw [←hn] at el h
 have hlt:v<256^(3* n):=by
  have:=cT hd
  rw [←hv,←hn] at this
  rwa [Nat.pow_mul,show (256:Nat)^3=(16777216:Nat) by decide]
 rcases Nat.eq_zero_or_pos n with h0|h0
 · have hl:l=[]:=List.length_eq_zero_iff.1 (by omega)
   have oO:v=0:=by rw [hv,hl];rfl
   subst hl oO
   exact aj ah (aI aF) (by rfl) (X1 2 (af 0)) ⟨rfl,⟨by decide,by decide,by decide,by decide⟩,rfl,by omega,rfl,by omega,rfl,by rfl,trivial⟩
 · rw [el]
   have jL:=uF (b:=256) (by decide) hlt
   obtain ⟨z,hz⟩:∃z,z=3* n - (dg 256 v).length:=⟨_,rfl⟩
   have Yp:=gS (b:=256) (by decide) hlt
   rw [←hz] at jL
   have QC:es (3* n) v (3* n)=List.replicate z 0++(dg 256 v).reverse:=by
    rw [Lw,jL,List.reverse_append,List.reverse_replicate]
   obtain ⟨k,hk⟩:∃k,k=3* n+5:=⟨_,rfl⟩
   have l1:=bK (f:=aU MD t17 k 139 0) (S:=fun i=>⟨[(0, .pv (ni (fd (16777216:Nat) n v))),(3, .bs 8 0 1 (3* n)),(4, .pv (iv (i:Nat)))],[(8,(es (3* n) v i).map bt)],[],[]⟩) (n:=3* n) (fun i hi=>II k i n v hi h) (r:=(.exit 0,⟨[(0, .pv (ni (fd (16777216:Nat) n v))),(3, .bs 8 0 1 (3* n)),(4, .pv (iv (3* n:Nat))),(12, .pv (bv false))],[(8,(es (3* n) v (3* n)).map bt)],[],[]⟩))
    (by
     have:=XU k n (3* n) ((fd (16777216:Nat) n v).map aE) ((es (3* n) v (3* n)).map bt)
     simp only [ni,bE]
     exact aq this ⟨by simp,trivial⟩) (by simp) k (by omega)
   have l2:=bR (show z+1≤k by omega) (K3 k z v (ni (fd (16777216:Nat) n v)) (iv (3* n:Nat)) (bv false) (by omega))
   rw [show z+(dg 256 v).length=3* n by omega] at l2
   rw [Ka,QC] at l1
   simp only [ni,bE] at l1 l2 ⊢
   have O8:cF ((List.replicate z 0++(dg 256 v).reverse).map bt) z ((dg 256 v).length* 1) ((dg 256 v).reverse.map bt):=o7 _ _ _ (by
    rw [List.drop_left' (by simp),List.take_of_length_le (by simp)])
   have hlen:IntKind.i64.wrap (3* (n:Int))=((3* n:Nat):Int):=aR (by omega) (by omega)
   cases z with
   |zero=>
    refine aj ah (aI aF) (by rfl) (XR k n _ ((fd (16777216:Nat) n v).map aE) _ _ _ (af v) 0) ⟨hlen, ?_, ?_,kO (c:=bt),l1,l2,O8,xg v,trivial⟩
    · refine ⟨by omega,by omega, ?_, ?_⟩
      · rw [D5];show _≤((140737488355328:Nat):Int);omega
      · show _≤((140737488355328:Nat):Int);omega
    · simp;omega
   |succ o=>
    refine aj ah (aI aF) (by rfl) (XS k n _ ((fd (16777216:Nat) n v).map aE) _ _ _ (af v) o) ⟨hlen, ?_, ?_,kO (c:=bt),l1,l2,O8,xg v,trivial⟩
    · refine ⟨by omega,by omega, ?_, ?_⟩
      · rw [D5];show _≤((140737488355328:Nat):Int);omega
      · show _≤((140737488355328:Nat):Int);omega
    · simp;omega
end Go.Proofs.YtibbgjafjhcemaaGreatDoor.Cul
namespace Go.Proofs.YtibbgjafjhcemaaGreatDoor.Cul
open Go Go.RowKit
noncomputable def OT:List PV→Option RV:=bJ (fun l:List Nat=>l.length<2^40∧aZ (16777216:Nat) l) (fun l=>[ni l]) (fun l=>one (sv (af (val (16777216:Nat) l))))
noncomputable def t18:Cl:=bM [(139,OT)]
noncomputable def vB:List PV→Option RV:=bJ (fun x:Bool×List Nat=>x.2.length<2^40∧aZ (16777216:Nat) x.2) (fun x=>[bv x.1,ni x.2]) (fun x=>one (.ag (zc (if x.1 then -(val (16777216:Nat) x.2:Int) else (val (16777216:Nat) x.2:Int)))))
noncomputable def t19:Cl:=bM [(87,vB)]
theorem W9 (k o m:Nat) (cs:List PV):ay MD t0 k 140 0 ⟨[(0, .bs gk o 1 m)],[(gk,cs)],[],[]⟩ [.c false]=
 some ((Xt.exit 0,St.mk [(0,AV.bs 1000000 o 1 m),(14,AV.pv (PV.lit (Value.bool false)))] [(1000000,cs)] [] []),[],[decide ((↑m:Int)>(0:Int))=false]):=by kernel_rfl
theorem Xa (k o m x:Nat) (cs:List PV):ay MD t0 k 140 0 ⟨[(0, .bs gk o 1 m)],[(gk,cs)],[],[]⟩ [.c true, .j 11 (m - 1), .e 12 (iv x), .c false]=
 some ((Xt.exit 0,St.mk [(0,AV.bs 1000000 o 1 m),(14,AV.pv (PV.lit (Value.bool false)))] [(1000000,cs)] [] []),[],[decide ((↑m:Int)>(0:Int))=true,aJ (IntKind.i64.wrap ((↑m:Int) - (1:Int))) m (m - (1:Nat)),Ld MD.P 3 cs (o+(m - (1:Nat))* (1:Nat)) (PV.lit (Value.int IntKind.i64 (↑x:Int))),((↑x:Int)==(0:Int))=false]):=by kernel_rfl
theorem Xb (k o m x:Nat) (cs:List PV):ay MD t0 k 140 0 ⟨[(0, .bs gk o 1 m)],[(gk,cs)],[],[]⟩ [.c true, .j 11 (m - 1), .e 12 (iv x), .c true, .o 19 o (m - 1)]=
 some ((Xt.normal,St.mk [(0,AV.bs 1000000 o 1 (m - (1:Nat)))] [(1000000,cs)] [] []),[],[decide ((↑m:Int)>(0:Int))=true,aJ (IntKind.i64.wrap ((↑m:Int) - (1:Int))) m (m - (1:Nat)),Ld MD.P 3 cs (o+(m - (1:Nat))* (1:Nat)) (PV.lit (Value.int IntKind.i64 (↑x:Int))),((↑x:Int)==(0:Int))=true,(0:Int)≤(0:Int)∧(0:Int)≤IntKind.i64.wrap ((↑m:Int) - (1:Int))∧IntKind.i64.wrap ((↑m:Int) - (1:Int))≤(↑m:Int),o=o,(IntKind.i64.wrap ((↑m:Int) - (1:Int))).toNat - Int.toNat (0:Int)=m - (1:Nat)]):=by kernel_rfl
theorem Xc (k o m n:Nat) (cs:List PV):l8 MD t0 k 140 [.g cs o 1 n] [.l (.exit 0) ⟨[(0, .bs gk o 1 m),(14, .pv (bv false))],[(gk,cs)],[],[]⟩]=
 some ((MR.gs o m,cs),[cs.all cH=true,cs.length=cs.length,aX MD t0 k (140:Nat) (0:Nat) (St.mk [(0,AV.bs 1000000 o 1 n)] [(1000000,cs)] [] []) (Xt.exit 0) (St.mk [(0,AV.bs 1000000 o 1 m),(14,AV.pv (PV.lit (Value.bool false)))] [(1000000,cs)] [] [])]):=by kernel_rfl
theorem RO (k n:Nat) (s:ByteArray) (cs0 cs ds:List PV):aA MD t0 k 86 [sv s] [.i 8 (s.size+2:Nat), .i 9 n, .c false, .f cs0, .l (.exit 0) ⟨[(0, .pv (sv s)),(3, .bs 10 0 1 n),(4, .pv (iv s.size)),(14, .pv (bv false))],[(10,cs)],[],[]⟩, .f ds]=
 some (RV.mk (PV.sl 1 n ds) (some 1),[IntKind.i64.wrap ((↑s.size:Int)+(2:Int))=(↑(s.size+(2:Nat)):Int),IntKind.i64.wrap ((↑(s.size+(2:Nat)):Int).tdiv (3:Int))=(↑n:Int),false=false,(0:Int)≤(↑n:Int)∧(↑n:Int)≤(↑n:Int)∧(↑n:Int)* (↑(MD.P.bytesOf (3:Nat)):Int)≤(↑room:Int)∧(↑n:Int)≤(↑room:Int),decide ((↑n:Int)=(0:Int))=false,fC [PV.lit (Value.int IntKind.i64 (0:Int))] n cs0,aX MD t0 k (86:Nat) (0:Nat) (St.mk [(0,AV.pv (PV.lit (Value.string s))),(3,AV.bs 10 0 1 n),(4,AV.pv (PV.lit (Value.int IntKind.i64 (0:Int))))] [(10,cs0)] [] []) (Xt.exit 0) (St.mk [(0,AV.pv (PV.lit (Value.string s))),(3,AV.bs 10 0 1 n),(4,AV.pv (PV.lit (Value.int IntKind.i64 (↑s.size:Int)))),(14,AV.pv (PV.lit (Value.bool false)))] [(10,cs)] [] []),cF cs 0 (n* (1:Nat)) ds]):=by kernel_rfl
theorem RR (k:Nat) (s:ByteArray):aA MD t0 k 86 [sv s] [.i 8 2, .i 9 0, .c true, .u 1, .c false]=
 some (RV.mk (PV.sl 1 0 []) none,[IntKind.i64.wrap ((↑s.size:Int)+(2:Int))=(2:Int),(0:Int)=(0:Int),false=false,(0:Int)≤(0:Int)∧(0:Int)≤(0:Int)∧(0:Int)* (↑(MD.P.bytesOf (3:Nat)):Int)≤(↑room:Int)∧(0:Int)≤(↑room:Int),true=true,(1:Nat)≤k,decide ((0:Int)<(↑s.size:Int))=false]):=by kernel_rfl
theorem RP (k n i b x y:Nat) (s:ByteArray) (cs cs':List PV):ay MD t0 k 86 0 ⟨[(0, .pv (sv s)),(3, .bs 10 0 1 n),(4, .pv (iv i))],[(10,cs)],[],[]⟩ [.c true, .i 19 (s.size - 1), .i 21 (s.size - 1 - i:Nat), .i 24 (i/3:Nat), .j 25 (i/3), .e 26 (iv x), .i 29 b, .i 30 b, .i 32 (i%3:Nat), .i 33 (8*(i%3):Nat), .i 34 (256^(i%3)* b:Nat), .i 35 y, .j 36 (i/3), .s cs', .i 16 ((i+1:Nat):Int)]=
 some ((Xt.normal,St.mk [(0,AV.pv (PV.lit (Value.string s))),(3,AV.bs 10 0 1 n),(4,AV.pv (PV.lit (Value.int IntKind.i64 (↑(i+(1:Nat)):Int))))] [(10,cs')] [] []),[],[decide ((↑i:Int)<(↑s.size:Int))=true,IntKind.i64.wrap ((↑s.size:Int) - (1:Int))=(↑s.size:Int) - (1:Int),IntKind.i64.wrap ((↑s.size:Int) - (1:Int) - (↑i:Int))=(↑(s.size - (1:Nat) - i):Int),IntKind.i64.wrap ((↑i:Int).tdiv (3:Int))=(↑(i / (3:Nat)):Int),false=false,aJ (↑(i / (3:Nat)):Int) n (i / (3:Nat)),Ld MD.P 3 cs ((0:Nat)+i / (3:Nat)* (1:Nat)) (PV.lit (Value.int IntKind.i64 (↑x:Int))),eu s (↑(s.size - (1:Nat) - i):Int) (↑b:Int),IntKind.i64.wrap (↑b:Int)=(↑b:Int),(↑i:Int).tmod (3:Int)=(↑(i%(3:Nat)):Int),false=false,IntKind.i64.wrap ((8:Int)* (↑(i%(3:Nat)):Int))=(↑((8:Nat)* (i%(3:Nat))):Int),IntKind.i64.wrap ((↑b:Int)* (2:Int)^min (↑((8:Nat)* (i%(3:Nat))):Int).toNat IntKind.i64.bits)=(↑((256:Nat)^(i%(3:Nat))* b):Int),decide ((↑((8:Nat)* (i%(3:Nat))):Int)<(0:Int))=false,IntKind.i64.wrap ((↑x:Int)+(↑((256:Nat)^(i%(3:Nat))* b):Int))=(↑y:Int),aJ (↑(i / (3:Nat)):Int) n (i / (3:Nat)),(0:Nat)+i / (3:Nat)* (1:Nat)+(PV.lit (Value.int IntKind.i64 (↑y:Int))).cells.length≤cs.length,bZ cs ((0:Nat)+i / (3:Nat)* (1:Nat)) [PV.lit (Value.int IntKind.i64 (↑y:Int))] cs',IntKind.i64.wrap ((↑i:Int)+(1:Int))=(↑(i+(1:Nat)):Int)]):=by kernel_rfl
theorem RQ (k n i:Nat) (s:ByteArray) (cs:List PV):ay MD t0 k 86 0 ⟨[(0, .pv (sv s)),(3, .bs 10 0 1 n),(4, .pv (iv i))],[(10,cs)],[],[]⟩ [.c false]=
 some ((Xt.exit 0,St.mk [(0,AV.pv (PV.lit (Value.string s))),(3,AV.bs 10 0 1 n),(4,AV.pv (PV.lit (Value.int IntKind.i64 (↑i:Int)))),(14,AV.pv (PV.lit (Value.bool false)))] [(10,cs)] [] []),[],[decide ((↑i:Int)<(↑s.size:Int))=false]):=by kernel_rfl
theorem WE (k n:Nat) (cs:List PV) (c:Bool) (s:ByteArray):aA MD t18 k 87 [bv true, .sl 1 n cs] [.r (one (sv s)), .c c]=
 some (RV.mk (PV.ag [PV.lit (Value.bool c),PV.lit (Value.string s)]) none,[aa t18 139 [PV.sl 1 n cs] (RV.mk (PV.lit (Value.string s)) none),(!s.toList==(ByteArray.mk #[]).toList)=c]):=by kernel_rfl
theorem WD (k n:Nat) (cs:List PV) (s:ByteArray):aA MD t18 k 87 [bv false, .sl 1 n cs] [.r (one (sv s))]=
 some (RV.mk (PV.ag [PV.lit (Value.bool false),PV.lit (Value.string s)]) none,[aa t18 139 [PV.sl 1 n cs] (RV.mk (PV.lit (Value.string s)) none)]):=by kernel_rfl
theorem Wp (k:Nat) (n u w d0 d1 d2:Int) (e:Bool) (s:ByteArray):aA MD t19 k 49 [iv n] [.i 5 u, .c true, .i 9 w, .c true, .i 14 d0, .i 18 d1, .i 22 d2, .r (one (iz e s))]=
 some (RV.mk (PV.ag [PV.lit (Value.bool e),PV.lit (Value.string s)]) none,[IntKind.u64.wrap n=u,decide (n<(0:Int))=true,IntKind.u64.wrap ((0:Int) - u)=w,decide (n<(0:Int))=true,false=false,IntKind.i64.wrap (w.tmod (16777216:Int))=d0,false=false,false=false,IntKind.i64.wrap ((IntKind.u64.wrap (w.tdiv (16777216:Int))).tmod (16777216:Int))=d1,false=false,false=false,IntKind.i64.wrap (IntKind.u64.wrap ((IntKind.u64.wrap (w.tdiv (16777216:Int))).tdiv (16777216:Int)))=d2,aa t19 87 [PV.lit (Value.bool true),PV.sl 1 3 [PV.lit (Value.int IntKind.i64 d0),PV.lit (Value.int IntKind.i64 d1),PV.lit (Value.int IntKind.i64 d2)]] (RV.mk (PV.ag [PV.lit (Value.bool e),PV.lit (Value.string s)]) none)]):=by kernel_rfl
theorem Wq (k:Nat) (n u d0 d1 d2:Int) (e:Bool) (s:ByteArray):aA MD t19 k 49 [iv n] [.i 5 u, .c false, .c false, .i 14 d0, .i 18 d1, .i 22 d2, .r (one (iz e s))]=
 some (RV.mk (PV.ag [PV.lit (Value.bool e),PV.lit (Value.string s)]) none,[IntKind.u64.wrap n=u,decide (n<(0:Int))=false,decide (n<(0:Int))=false,false=false,IntKind.i64.wrap (u.tmod (16777216:Int))=d0,false=false,false=false,IntKind.i64.wrap ((IntKind.u64.wrap (u.tdiv (16777216:Int))).tmod (16777216:Int))=d1,false=false,false=false,IntKind.i64.wrap (IntKind.u64.wrap ((IntKind.u64.wrap (u.tdiv (16777216:Int))).tdiv (16777216:Int)))=d2,aa t19 87 [PV.lit (Value.bool false),PV.sl 1 3 [PV.lit (Value.int IntKind.i64 d0),PV.lit (Value.int IntKind.i64 d1),PV.lit (Value.int IntKind.i64 d2)]] (RV.mk (PV.ag [PV.lit (Value.bool e),PV.lit (Value.string s)]) none)]):=by kernel_rfl
theorem JZ {b:Nat} (hb:2≤b) {l:List Nat} (h:aZ b l):dg b (val b l)=l.take (dg b (val b l)).length:=by
 have h1:l=fd b l.length (val b l):=iW (by omega) h rfl rfl
 have h2:=uF hb (cT h)
 rw [←h1] at h2
 exact ((congrArg (List.take (dg b (val b l)).length) h2).trans (List.take_left' rfl)).symm
theorem vS (k:Nat) (p:List Nat):∀(n:Nat) (l q:List Nat),l.length=n→n<2^40→aZ (16777216:Nat) l→bh (aU MD t0 k 140 0) (n+1) ⟨[(0, .bs gk p.length 1 l.length)],[(gk,(p++l++q).map aE)],[],[]⟩=some (.exit 0,⟨[(0, .bs gk p.length 1 (dg (16777216:Nat) (val (16777216:Nat) l)).length),(14, .pv (bv false))],[(gk,(p++l++q).map aE)],[],[]⟩)
 |0,l,q,hl,_,_=>by
  have:l=[]:=List.length_eq_zero_iff.1 hl
  subst this
  exact aW (aq (W9 k p.length 0 _) ⟨rfl,trivial⟩) (by simp)
 |n+1,l,q,hl,hn,hd=>by
  have hne:l≠[]:=by intro h;subst h;simp at hl
  have e:=List.dropLast_concat_getLast hne
  obtain ⟨x,hx⟩:∃x,x=l.getLast hne:=⟨_,rfl⟩
  obtain ⟨m,hm⟩:∃m,m=l.dropLast:=⟨_,rfl⟩
  rw [←hx,←hm] at e
  subst e
  have hl':m.length=n:=by simpa using hl
  have hw:IntKind.i64.wrap (((m++[x]).length:Int) - 1)=(((m++[x]).length - 1:Nat):Int):=aR (by omega) (by omega)
  have hg:(p++(m++[x])++q)[p.length+n]? =some x:=by
   rw [List.append_assoc,List.getElem?_append_right (by omega),Nat.add_sub_cancel_left,List.append_assoc,List.getElem?_append_right (by omega),hl',Nat.sub_self];rfl
  have uO:=pS hg (o:=p.length+((m++[x]).length - 1)* 1) (by omega)
  have h0:decide (((m++[x]).length:Int)>0)=true:=decide_eq_true (by omega)
  have ha:aJ (IntKind.i64.wrap (((m++[x]).length:Int) - 1)) (m++[x]).length ((m++[x]).length - 1):=⟨hw,by omega⟩
  by_cases h:x=0
  · subst h
    refine bz (aq (Xb k p.length _ 0 _) ⟨h0,ha,uO,rfl,⟨by omega,by omega,by omega⟩,rfl, ?_,trivial⟩) ?_
    · rw [hw];simp
    · have:=vS k p n m (0::q) hl' (by omega) hd.left
      have e1:p++(m++[0])++q=p++m++0::q:=by simp
      have e2:(m++[0]).length - 1=m.length:=by simp
      rw [rP,e1,e2]
      exact this
  · have:=aW (n:=n+1) (aq (Xa k p.length (m++[x]).length x _) ⟨h0,ha,uO,beq_false_of_ne (by omega),trivial⟩) (by simp)
    rw [CN (by decide) hd (.inr ⟨m,x,rfl,by omega⟩)]
    exact this
theorem fS (l:List Nat):(l.map aE).all cH=true:=Fb (fun _=>rfl) l
theorem Il (p l:List Nat) (h:l.length<2^40) (hd:aZ (16777216:Nat) l):iV P0 140 [.g ((p++l).map aE) p.length 1 l.length] (.gs p.length (dg (16777216:Nat) (val (16777216:Nat) l)).length) ((p++l).map aE):=by
 have:=vS (l.length+1) p l.length l [] rfl h hd
 rw [List.append_nil] at this
 exact jE ah (aI aF) (by rfl) (Xc (l.length+1) p.length _ l.length _) ⟨fS _,rfl,this,trivial⟩
noncomputable def AF:List MA→Option (MR×List PV):=xZ (fun x:List Nat×List Nat=>x.2.length<2^40∧aZ (16777216:Nat) x.2) (fun x=>[.g ((x.1++x.2).map aE) x.1.length 1 x.2.length]) (fun x=>(.gs x.1.length (dg (16777216:Nat) (val (16777216:Nat) x.2)).length,(x.1++x.2).map aE))
theorem xU {p l:List Nat} (h:l.length<2^40) (hd:aZ (16777216:Nat) l):AF [.g ((p++l).map aE) p.length 1 l.length]=some (.gs p.length (dg (16777216:Nat) (val (16777216:Nat) l)).length,(p++l).map aE):=
 vH (a:=(p,l)) (enc:=fun x:List Nat×List Nat=>[.g ((x.1++x.2).map aE) x.1.length 1 x.2.length]) (fun a b e=>by
  simp only [List.cons.injEq,and_true,MA.g.injEq,true_and] at e
  have h1:=tP e.1
  have h2:=List.append_inj h1 e.2.1
  have:a=b:=Prod.ext h2.1 h2.2
  rw [this]) ⟨h,hd⟩
theorem FR:∀ms r cs',AF ms=some (r,cs')→iV P0 140 ms r cs':=vI fun x h=>Il x.1 x.2 h.1 h.2
theorem DH {b r:Nat} (hb:b<256) (hr:r<3):IntKind.i64.wrap ((b:Int)* (2:Int)^min ((8* r:Nat):Int).toNat IntKind.i64.bits)=((256^r* b:Nat):Int):=by
 have e:min ((8* r:Nat):Int).toNat IntKind.i64.bits=8* r:=by
  rw [Int.toNat_natCast];show min (8* r) 64=8* r;omega
 rw [e]
 have e2:(2:Int)^(8* r)=((256^r:Nat):Int):=by
  rw [Int.pow_mul];simp
 rw [e2]
 have h1:256^r* b<2^24:=by
  have:256^r≤256^2:=Nat.pow_le_pow_right (by omega) (by omega)
  calc 256^r* b≤256^2* 255:=Nat.mul_le_mul this (by omega)
   _<2^24:=by decide
 exact aR (by rw [Int.mul_comm];simp) (by omega)
theorem Ef (k i n:Nat) (s:ByteArray) (hi:i<s.size) (hs:s.size<2^30) (hn:n=(s.size+2) / 3):aU MD t0 k 86 0 ⟨[(0, .pv (sv s)),(3, .bs 10 0 1 n),(4, .pv (iv i))],[(10,(bD 3 (aS s) i n).map aE)],[],[]⟩=some (.normal,⟨[(0, .pv (sv s)),(3, .bs 10 0 1 n),(4, .pv (iv (i+1:Nat)))],[(10,(bD 3 (aS s) (i+1) n).map aE)],[],[]⟩):=by
 obtain ⟨b,hb,cc⟩:=lO hi
 have nI:b<256:=dz s b (List.mem_of_getElem? hb)
 have hd:=dz s
 have hin:i / 3<n:=by omega
 have hx:(bD 3 (aS s) i n)[i / 3]? =some (cellAt 3 (aS s) i (i / 3)):=by simp [bD,hin]
 have hlt:=qM (c:=3) hd i (i / 3)
 have hm:min 3 (i - 3* (i / 3))=i%3:=by omega
 rw [hm] at hlt
 have hr:i%3<3:=by omega
 have hp:256^(i%3)* 256≤2^24:=by
  have:256^(i%3)≤256^2:=Nat.pow_le_pow_right (by omega) (by omega)
  omega
 have hsum:cellAt 3 (aS s) i (i / 3)+256^(i%3)* b<2^24:=by
  have h1:256^(i%3)* (b+1)≤256^(i%3)* 256:=Nat.mul_le_mul_left _ (by omega)
  rw [Nat.mul_add] at h1
  omega
 have uO:=pS hx (o:=0+i / 3* 1) (by omega)
 have zG:eu s ((s.size - 1 - i:Nat):Int) (b:Int):=by
  show ja s _=_
  unfold ja
  rw [if_pos (by omega),Int.toNat_natCast]
  cases h:s[s.size - 1 - i]? with
  |none=>rw [h] at cc;simp at cc
  |some c=>rw [h] at cc;simp at cc;simp [cc]
 have h1:IntKind.i64.wrap ((i:Int).tdiv 3)=((i / 3:Nat):Int):=aR (gP i 3) (by omega)
 have h2:(i:Int).tmod 3=((i%3:Nat):Int):=fQ i 3
 have h3:IntKind.i64.wrap ((s.size:Int) - 1)=(s.size:Int) - 1:=by rw [wrap64]<;>omega
 have Og:IntKind.i64.wrap (((cellAt 3 (aS s) i (i / 3):Nat):Int)+((256^(i%3)* b:Nat):Int))=((cellAt 3 (aS s) i (i / 3)+256^(i%3)* b:Nat):Int):=aR (by simp) (by omega)
 have h6:0+i / 3* 1+(aE (cellAt 3 (aS s) i (i / 3)+256^(i%3)* b)).cells.length≤((bD 3 (aS s) i n).map aE).length:=by
  rw [List.length_map,dR]
  show _+1≤_
  omega
 have h5:bZ ((bD 3 (aS s) i n).map aE) (0+i / 3* 1) [aE (cellAt 3 (aS s) i (i / 3)+256^(i%3)* b)] ((bD 3 (aS s) (i+1) n).map aE):=l9 (qN (by omega) hb) (by rw [dR];exact hin) (by omega)
 exact aq (RP k n i b (cellAt 3 (aS s) i (i / 3)) (cellAt 3 (aS s) i (i / 3)+256^(i%3)* b) s _ ((bD 3 (aS s) (i+1) n).map aE)) ⟨decide_eq_true (by omega),h3,aR (by omega) (by omega),h1,rfl,⟨rfl,hin⟩,uO,zG,aR rfl (by omega),h2,rfl,aR (by omega) (by omega),DH nI hr,decide_eq_false (by omega),Og,⟨rfl,hin⟩,h6,h5,aR (by omega) (by omega),trivial⟩
theorem Ei (v:Nat):bD 3 (dg 256 v) (dg 256 v).length (((dg 256 v).length+2) / 3)=dg (16777216:Nat) v:=by
 obtain ⟨n,hn⟩:∃n,n=((dg 256 v).length+2) / 3:=⟨_,rfl⟩
 rw [←hn]
 have hend:=oe (c:=3) (by omega) n (dg 256 v) (by omega)
 rw [bP (by decide)] at hend
 have Hh:=sP (c:=3) (bU (b:=256) (by decide) v) (dg 256 v).length n
 rw [show (256:Nat)^3=(16777216:Nat) by decide] at hend Hh
 have h1:=iW (by decide) Hh (dR _ _ _ _) hend
 have hlt:v<(16777216:Nat)^n:=by have:=cT Hh;rw [hend,dR] at this;exact this
 rw [h1,uF (by decide) hlt]
 have hle:=gS (b:=(16777216:Nat)) (by decide) hlt
 have hge:n≤(dg (16777216:Nat) v).length:=by
  rcases Nat.eq_zero_or_pos v with rfl|hv
  · rw [dH] at hn ⊢;simp at hn;omega
  · have h2:=nE (b:=256) (by decide) hv
    have h3:v<256^(3* (dg (16777216:Nat) v).length):=by
     have:=cz (b:=(16777216:Nat)) (n:=v) (by decide)
     rwa [Nat.pow_mul,show (256:Nat)^3=(16777216:Nat) by decide]
    have:(dg 256 v).length - 1<3* (dg (16777216:Nat) v).length:=by
     apply Classical.byContradiction
     intro hc
     have:=Nat.pow_le_pow_right (n:=256) (by decide) (Nat.le_of_not_lt hc)
     omega
    omega
 have:n - (dg (16777216:Nat) v).length=0:=by omega
 rw [this];simp
theorem Bi (s:ByteArray) (h:s.size=0):az P0 86 [sv s] (one (ni (dg (16777216:Nat) (bI s)))):=by
 have hv:bI s=0:=by
  have e:aS s=[]:=List.length_eq_zero_iff.1 (by rw [bL];exact h)
  simp [bI,e,val]
 rw [hv]
 refine aj ah (aI aF) (by rfl) (RR 1 s) ⟨?_,rfl,rfl,⟨by decide,by decide,by decide,by decide⟩,rfl,by omega,decide_eq_false (by omega),trivial⟩
 rw [h];rfl
theorem vp (v:Nat) (hs:(af v).size<2^30) (h0:0<v):az P0 86 [sv (af v)] ⟨ni (dg (16777216:Nat) v),some 1⟩:=by
 have hsz:(af v).size=(dg 256 v).length:=lP
 have hb:=cU v
 obtain ⟨n,hn⟩:∃n,n=((af v).size+2) / 3:=⟨_,rfl⟩
 have hn0:0<(af v).size:=by
  rw [hsz]
  have:=dw (b:=256) (by decide) h0
  rw [this];simp
 have hend:bD 3 (aS (af v)) (af v).size n=dg (16777216:Nat) v:=by rw [hb,hsz,hn,hsz];exact Ei v
 have hlen:(dg (16777216:Nat) v).length=n:=by rw [←hend,dR]
 have lp:=bK (f:=aU MD t0 ((af v).size+1) 86 0) (S:=fun i=>⟨[(0, .pv (sv (af v))),(3, .bs 10 0 1 n),(4, .pv (iv i))],[(10,(bD 3 (aS (af v)) i n).map aE)],[],[]⟩) (n:=(af v).size) (fun i hi=>Ef _ i n _ hi hs hn) (aq (RQ _ n _ _ _) ⟨decide_eq_false (by omega),trivial⟩) (by simp) ((af v).size+1) (by omega)
 rw [qO,hend] at lp
 have h1:IntKind.i64.wrap (((af v).size:Int)+2)=(((af v).size+2:Nat):Int):=aR (by omega) (by omega)
 have h2:IntKind.i64.wrap ((((af v).size+2:Nat):Int).tdiv 3)=(n:Int):=aR (by rw [hn];exact gP _ 3) (by omega)
 have:=aj ah (aI aF) (by rfl) (RO ((af v).size+1) n (af v) ((List.replicate n 0).map aE) ((dg (16777216:Nat) v).map aE) ((dg (16777216:Nat) v).map aE)) ⟨h1,h2,rfl,⟨by omega,by omega,by rw [D4];show _≤((140737488355328:Nat):Int);omega,by show _≤((140737488355328:Nat):Int);omega⟩,decide_eq_false (by omega),kO (c:=aE),lp,o7 _ 0 (n* 1) (by rw [List.drop_zero,List.take_of_length_le (by omega)]),trivial⟩
 unfold ni
 rw [hlen]
 exact this
theorem Lg {l:List Nat} (h:l.length<2^40) (hd:aZ (16777216:Nat) l):OT [ni l]=some (one (sv (af (val (16777216:Nat) l)))):=
 aO (enc:=fun l:List Nat=>[ni l]) (fun a b e=>by rw [rA (List.cons.inj e).1]) ⟨h,hd⟩
theorem F5:aH MD.P t18:=aI (ak (ax fun l h=>FG l h.1 h.2) aF)
theorem qi (g:Bool) (l:List Nat) (h:l.length<2^40) (hd:aZ (16777216:Nat) l):az P0 87 [bv g,ni l] (one (.ag (zc (if g then -(val (16777216:Nat) l:Int) else (val (16777216:Nat) l:Int))))):=by
 have hb:=Lg h hd
 cases g with
 |false=>
  simp only [Bool.false_eq_true,if_false]
  have:=aj ah F5 (by rfl) (WD 1 _ _ _) ⟨hb,trivial⟩
  have e:zc (val (16777216:Nat) l:Int)=[bv false,sv (af (val (16777216:Nat) l))]:=by
   simp only [zc,Int.natAbs_natCast]
   rw [decide_eq_false (by omega)]
  rw [e];exact this
 |true=>
  simp only [if_true]
  have:=aj ah F5 (by rfl) (WE 1 _ _ (!decide ((af (val (16777216:Nat) l)).size=0)) _) ⟨hb,by rw [cJ],trivial⟩
  have e:zc (-(val (16777216:Nat) l:Int))=[bv (!decide ((af (val (16777216:Nat) l)).size=0)),sv (af (val (16777216:Nat) l))]:=by
   simp only [zc,Int.natAbs_neg,Int.natAbs_natCast,List.cons.injEq,and_true]
   congr 1
   by_cases h0:(af (val (16777216:Nat) l)).size=0
   · have:=pY h0;rw [this];rfl
   · have:val (16777216:Nat) l≠0:=fun e=>h0 (by rw [e];rfl)
     rw [decide_eq_true (by omega),decide_eq_false h0];rfl
  rw [e];exact this
theorem xV {g:Bool} {l:List Nat} (h:l.length<2^40) (hd:aZ (16777216:Nat) l):vB [bv g,ni l]=some (one (.ag (zc (if g then -(val (16777216:Nat) l:Int) else (val (16777216:Nat) l:Int))))):=
 aO (a:=(g,l)) (enc:=fun x:Bool×List Nat=>[bv x.1,ni x.2]) (fun a b e=>by
  simp only [List.cons.injEq,and_true] at e
  have:a=b:=Prod.ext (D3 e.1) (rA e.2)
  rw [this]) ⟨h,hd⟩
theorem F6:aH MD.P t19:=aI (ak (ax fun x h=>qi x.1 x.2 h.1 h.2) aF)
theorem AE (n:Int) (h1: -(2^63)≤n) (h2:n<2^63):az P0 49 [iv n] (one (.ag (zc n))):=by
 obtain ⟨m,hm⟩:∃m:Nat,m=n.natAbs:=⟨_,rfl⟩
 have hd:aZ (16777216:Nat) [m%(16777216:Nat),m / (16777216:Nat)%(16777216:Nat),m / (16777216:Nat) / (16777216:Nat)]:=by
  intro x hx
  simp at hx
  omega
 have hv:val (16777216:Nat) [m%(16777216:Nat),m / (16777216:Nat)%(16777216:Nat),m / (16777216:Nat) / (16777216:Nat)]=m:=by simp [val];omega
 have hT:=fun g=>xV (g:=g) (l:=[m%(16777216:Nat),m / (16777216:Nat)%(16777216:Nat),m / (16777216:Nat) / (16777216:Nat)]) (by simp) hd
 rw [hv] at hT
 have e0:IntKind.i64.wrap ((m:Int).tmod 16777216)=((m%(16777216:Nat):Nat):Int):=aR (fQ m (16777216:Nat)) (by omega)
 have e1:IntKind.u64.wrap ((m:Int).tdiv 16777216)=((m / (16777216:Nat):Nat):Int):=bq (gP m (16777216:Nat)) (by omega)
 have e2:IntKind.i64.wrap (((m / (16777216:Nat):Nat):Int).tmod 16777216)=((m / (16777216:Nat)%(16777216:Nat):Nat):Int):=aR (fQ (m / (16777216:Nat)) (16777216:Nat)) (by omega)
 have e3:IntKind.u64.wrap (((m / (16777216:Nat):Nat):Int).tdiv 16777216)=((m / (16777216:Nat) / (16777216:Nat):Nat):Int):=bq (gP (m / (16777216:Nat)) (16777216:Nat)) (by omega)
 have e4:IntKind.i64.wrap (((m / (16777216:Nat) / (16777216:Nat):Nat):Int))=((m / (16777216:Nat) / (16777216:Nat):Nat):Int):=aR rfl (by omega)
 by_cases hn:n<0
 · have:=hT true
   simp only [if_true] at this
   rw [show -(m:Int)=n by omega] at this
   exact aj ah F6 (by rfl) (Wp 1 n (n+18446744073709551616) (m:Int) _ _ _ _ _) ⟨by rw [wrap_u64];omega,decide_eq_true hn,by rw [wrap_u64];omega,decide_eq_true hn,rfl,e0,rfl,rfl,by rw [e1];exact e2,rfl,rfl,by rw [e1,e3];exact e4,this,trivial⟩
 · have:=hT false
   simp only [Bool.false_eq_true,if_false] at this
   rw [show (m:Int)=n by omega] at this
   exact aj ah F6 (by rfl) (Wq 1 n (m:Int) _ _ _ _ _) ⟨by rw [wrap_u64];omega,decide_eq_false hn,decide_eq_false hn,rfl,e0,rfl,rfl,by rw [e1];exact e2,rfl,rfl,by rw [e1,e3];exact e4,this,trivial⟩
end Go.Proofs.YtibbgjafjhcemaaGreatDoor.Cul
namespace Go.Proofs.YtibbgjafjhcemaaGreatDoor.Cul
def bW (b n i v:Nat):List Nat:=fd b i v++List.replicate (n - i) 0
theorem ee {b n i v:Nat} (h:i≤n):(bW b n i v).length=n:=by simp [bW,bE];omega
theorem jB (b n v:Nat):bW b n 0 v=List.replicate n 0:=by simp [bW,fd]
theorem oG (b n v:Nat):bW b n n v=fd b n v:=by simp [bW]
theorem BK (b:Nat):∀(i v:Nat),fd b (i+1) v=fd b i v++[v / b^i%b]
 |0,v=>by simp [fd]
 |i+1,v=>by
  have h:fd b (i+1+1) v=v%b::fd b (i+1) (v / b):=rfl
  have h2:fd b (i+1) v=v%b::fd b i (v / b):=rfl
  rw [h,h2,BK b i (v / b),Nat.div_div_eq_div_mul,Nat.pow_succ,Nat.mul_comm b];rfl
theorem iD {b n i v:Nat} (h:i<n):(bW b n i v).set i (v / b^i%b)=bW b n (i+1) v:=by
 unfold bW
 rw [BK]
 obtain ⟨m,hm⟩:∃m,n - i=m+1:=⟨n - i - 1,by omega⟩
 have hm2:n - (i+1)=m:=by omega
 rw [hm,hm2,List.replicate_succ]
 rw [List.set_append_right _ _ (by rw [bE];omega),bE,Nat.sub_self,List.set_cons_zero,List.append_assoc];rfl
theorem N7 {b:Nat} (hb:2≤b) (v:Nat):dg b v=fd b (dg b v).length v:=iW (by omega) (bU hb v) rfl (bP hb v)
theorem iC {b v i:Nat} (hb:2≤b) (h:i<(dg b v).length):(dg b v)[i]? =some (v / b^i%b):=by
 rw [N7 hb v];exact gU h
theorem lS {b v i:Nat} (hb:2≤b) (h:(dg b v).length≤i):v / b^i=0:=by
 rw [Nat.div_eq_zero_iff]
 right
 exact Nat.lt_of_lt_of_le (cz hb) (Nat.pow_le_pow_right (by omega) h)
theorem cr (v b i:Nat):v / b^(i+1)=v / b^i / b:=by rw [Nat.pow_succ,Nat.div_div_eq_div_mul]
theorem yM (a b:Nat):∀i,a / (16777216:Nat)^i+b / (16777216:Nat)^i≤(a+b) / (16777216:Nat)^i∧(a+b) / (16777216:Nat)^i≤a / (16777216:Nat)^i+b / (16777216:Nat)^i+1
 |0=>by simp
 |i+1=>by
  have:=yM a b i
  rw [cr,cr,cr]
  omega
theorem Iy (a e:Nat) (he:e≤1):∀i,2* (a / (16777216:Nat)^i)≤(2* a+e) / (16777216:Nat)^i∧(2* a+e) / (16777216:Nat)^i≤2* (a / (16777216:Nat)^i)+1
 |0=>by simp;omega
 |i+1=>by
  have:=Iy a e he i
  rw [cr,cr]
  omega
theorem cY {b x y:Nat} (hb:2≤b) (h:x≤y):(dg b x).length≤(dg b y).length:=
 gS hb (Nat.lt_of_le_of_lt h (cz hb))
theorem tL {b n v:Nat} (hb:2≤b) (h:v<b^n):(fd b n v).take (dg b v).length=dg b v:=by
 rw [uF hb h];exact List.take_left' rfl
theorem Ee {b x y:Nat} (hb:2≤b) (h:(dg b x).length<(dg b y).length):x<y:=by
 have h1:=cz (b:=b) (n:=x) hb
 rcases Nat.eq_zero_or_pos y with rfl|hy
 · simp [dH] at h
 · have h2:=nE (b:=b) hb hy
   have:b^(dg b x).length≤b^((dg b y).length - 1):=Nat.pow_le_pow_right (by omega) (by omega)
   omega
end Go.Proofs.YtibbgjafjhcemaaGreatDoor.Cul
namespace Go.Proofs.YtibbgjafjhcemaaGreatDoor.Cul
open Go Go.RowKit
noncomputable def t20:Cl:=wW [] [(140,AF)] []
noncomputable def t21:Cl:=bM [(46,eU)]
theorem U1 (k:Nat) (u m1 m2 m3 m4:Int) (s:ByteArray):aA MD t21 k 138 [iz true s] [.r (one (bv true)), .c false, .l (.exit 0) ⟨[(1, .bp 1 0),(4, .pv (.lit (.int .u64 u))),(5, .pv (iv s.size)),(19, .pv (bv false))],[(1,[bv true,sv s])],[],[]⟩, .c true, .i 38 m1, .i 39 m2, .i 40 m3, .i 41 m4]=
 some (RV.mk (PV.aQ [PV.lit (Value.int IntKind.i64 m4),PV.lit (Value.bool true)]) none,[aa t21 46 [PV.ag [PV.lit (Value.bool true),PV.lit (Value.string s)]] (RV.mk (PV.lit (Value.bool true)) none),decide ((↑s.size:Int)>(8:Int))=false,aX MD t21 k (138:Nat) (0:Nat) (St.mk [(1,AV.bp 1 0),(4,AV.pv (PV.lit (Value.int IntKind.u64 (0:Int)))),(5,AV.pv (PV.lit (Value.int IntKind.i64 (0:Int))))] [(1,[PV.lit (Value.bool true),PV.lit (Value.string s)])] [] []) (Xt.exit 0) (St.mk [(1,AV.bp 1 0),(4,AV.pv (PV.lit (Value.int IntKind.u64 u))),(5,AV.pv (PV.lit (Value.int IntKind.i64 (↑s.size:Int)))),(19,AV.pv (PV.lit (Value.bool false)))] [(1,[PV.lit (Value.bool true),PV.lit (Value.string s)])] [] []),decide (u≤(9223372036854775808:Int))=true,IntKind.u64.wrap (u - (1:Int))=m1,IntKind.i64.wrap m1=m2,IntKind.i64.wrap ((0:Int) - m2)=m3,IntKind.i64.wrap (m3 - (1:Int))=m4]):=by kernel_rfl
theorem U2 (k:Nat) (u m1:Int) (s:ByteArray):aA MD t21 k 138 [iz false s] [.r (one (bv true)), .c false, .l (.exit 0) ⟨[(1, .bp 1 0),(4, .pv (.lit (.int .u64 u))),(5, .pv (iv s.size)),(19, .pv (bv false))],[(1,[bv false,sv s])],[],[]⟩, .c true, .i 51 m1]=
 some (RV.mk (PV.aQ [PV.lit (Value.int IntKind.i64 m1),PV.lit (Value.bool true)]) none,[aa t21 46 [PV.ag [PV.lit (Value.bool false),PV.lit (Value.string s)]] (RV.mk (PV.lit (Value.bool true)) none),decide ((↑s.size:Int)>(8:Int))=false,aX MD t21 k (138:Nat) (0:Nat) (St.mk [(1,AV.bp 1 0),(4,AV.pv (PV.lit (Value.int IntKind.u64 (0:Int)))),(5,AV.pv (PV.lit (Value.int IntKind.i64 (0:Int))))] [(1,[PV.lit (Value.bool false),PV.lit (Value.string s)])] [] []) (Xt.exit 0) (St.mk [(1,AV.bp 1 0),(4,AV.pv (PV.lit (Value.int IntKind.u64 u))),(5,AV.pv (PV.lit (Value.int IntKind.i64 (↑s.size:Int)))),(19,AV.pv (PV.lit (Value.bool false)))] [(1,[PV.lit (Value.bool false),PV.lit (Value.string s)])] [] []),decide (u<(9223372036854775808:Int))=true,IntKind.i64.wrap u=m1]):=by kernel_rfl
theorem U3 (k i b:Nat) (u u1 u2:Int) (g:Bool) (s:ByteArray):ay MD t21 k 138 0 ⟨[(1, .bp 1 0),(4, .pv (.lit (.int .u64 u))),(5, .pv (iv i))],[(1,[bv g,sv s])],[],[]⟩ [.c true, .i 23 u1, .i 27 b, .i 28 b, .i 29 u2, .i 21 (i+1:Nat)]=
 some ((Xt.normal,St.mk [(1,AV.bp 1 0),(4,AV.pv (PV.lit (Value.int IntKind.u64 u2))),(5,AV.pv (PV.lit (Value.int IntKind.i64 (↑(i+(1:Nat)):Int))))] [(1,[PV.lit (Value.bool g),PV.lit (Value.string s)])] [] []),[],[decide ((↑i:Int)<(↑s.size:Int))=true,IntKind.u64.wrap (u* (2:Int)^min (Int.toNat (8:Int)) IntKind.u64.bits)=u1,false=false,eu s (↑i:Int) (↑b:Int),IntKind.u64.wrap (↑b:Int)=(↑b:Int),IntKind.u64.wrap (u1+(↑b:Int))=u2,IntKind.i64.wrap ((↑i:Int)+(1:Int))=(↑(i+(1:Nat)):Int)]):=by kernel_rfl
theorem U4 (k i:Nat) (u:Int) (g:Bool) (s:ByteArray):ay MD t21 k 138 0 ⟨[(1, .bp 1 0),(4, .pv (.lit (.int .u64 u))),(5, .pv (iv i))],[(1,[bv g,sv s])],[],[]⟩ [.c false]=
 some ((Xt.exit 0,St.mk [(1,AV.bp 1 0),(4,AV.pv (PV.lit (Value.int IntKind.u64 u))),(5,AV.pv (PV.lit (Value.int IntKind.i64 (↑i:Int)))),(19,AV.pv (PV.lit (Value.bool false)))] [(1,[PV.lit (Value.bool g),PV.lit (Value.string s)])] [] []),[],[decide ((↑i:Int)<(↑s.size:Int))=false]):=by kernel_rfl
noncomputable def EZ:List PV→Option RV:=bJ (fun z:Int=>(af z.natAbs).size≤7) (fun z=>[.ag (zc z)]) (fun z=>one (.aQ [iv z,bv true]))
noncomputable def t22:Cl:=bM [(138,EZ)]
theorem RT (k:Nat) (g:Bool) (s:ByteArray) (z:Int):aA MD t22 k 85 [iz g s] [.c false, .r (one (.aQ [iv z,bv true]))]=
 some (RV.mk (PV.aQ [PV.lit (Value.int IntKind.i64 z),PV.lit (Value.bool true)]) none,[decide ((↑s.size:Int)>(7:Int))=false,aa t22 138 [PV.ag [PV.lit (Value.bool g),PV.lit (Value.string s)]] (RV.mk (PV.aQ [PV.lit (Value.int IntKind.i64 z),PV.lit (Value.bool true)]) none)]):=by kernel_rfl
theorem V1 (k n m r:Nat) (c:Int) (cs ds cs0 es fs gs:List PV):aA MD t20 k 88 [.sl 1 n cs, .sl 1 m ds] [.c false, .i 17 (n+1:Nat), .c false, .f cs0, .l (.exit 0) ⟨[(0, .pv (.sl 1 n cs)),(1, .pv (.sl 1 m ds)),(5, .bs 18 0 1 (n+1)),(6, .pv (iv c)),(7, .pv (iv n)),(22, .pv (bv false))],[(18,es)],[],[]⟩, .j 52 n, .s fs, .m (.gs 0 r) fs, .f gs]=
 some (RV.mk (PV.sl 1 r gs) (some 1),[decide ((↑n:Int)<(↑m:Int))=false,IntKind.i64.wrap ((↑n:Int)+(1:Int))=(↑(n+(1:Nat)):Int),(0:Int)≤(↑(n+(1:Nat)):Int)∧(↑(n+(1:Nat)):Int)≤(↑(n+(1:Nat)):Int)∧(↑(n+(1:Nat)):Int)* (↑(MD.P.bytesOf (3:Nat)):Int)≤(↑room:Int)∧(↑(n+(1:Nat)):Int)≤(↑room:Int),decide ((↑(n+(1:Nat)):Int)=(0:Int))=false,fC [PV.lit (Value.int IntKind.i64 (0:Int))] (↑(n+(1:Nat)):Int).toNat cs0,aX MD t20 k (88:Nat) (0:Nat) (St.mk [(0,AV.pv (PV.sl 1 n cs)),(1,AV.pv (PV.sl 1 m ds)),(5,AV.bs 18 0 1 (↑(n+(1:Nat)):Int).toNat),(6,AV.pv (PV.lit (Value.int IntKind.i64 (0:Int)))),(7,AV.pv (PV.lit (Value.int IntKind.i64 (0:Int))))] [(18,cs0)] [] []) (Xt.exit 0) (St.mk [(0,AV.pv (PV.sl 1 n cs)),(1,AV.pv (PV.sl 1 m ds)),(5,AV.bs 18 0 1 (n+(1:Nat))),(6,AV.pv (PV.lit (Value.int IntKind.i64 c))),(7,AV.pv (PV.lit (Value.int IntKind.i64 (↑n:Int)))),(22,AV.pv (PV.lit (Value.bool false)))] [(18,es)] [] []),aJ (↑n:Int) (n+(1:Nat)) n,(0:Nat)+n* (1:Nat)+(iv c).cells.length≤es.length,bZ es ((0:Nat)+n* (1:Nat)) [PV.lit (Value.int IntKind.i64 c)] fs,ey t20 140 [MA.g fs 0 1 (n+(1:Nat))] (MR.gs 0 r) fs,cF fs 0 (r* ((18:Nat),(1:Nat)).snd) gs]):=by kernel_rfl
theorem V2 (k n m r:Nat) (c:Int) (cs ds cs0 es fs gs:List PV):aA MD t20 k 88 [.sl 1 m ds, .sl 1 n cs] [.c true, .i 17 (n+1:Nat), .c false, .f cs0, .l (.exit 0) ⟨[(0, .pv (.sl 1 n cs)),(1, .pv (.sl 1 m ds)),(5, .bs 18 0 1 (n+1)),(6, .pv (iv c)),(7, .pv (iv n)),(22, .pv (bv false))],[(18,es)],[],[]⟩, .j 52 n, .s fs, .m (.gs 0 r) fs, .f gs]=
 some (RV.mk (PV.sl 1 r gs) (some 1),[decide ((↑m:Int)<(↑n:Int))=true,IntKind.i64.wrap ((↑n:Int)+(1:Int))=(↑(n+(1:Nat)):Int),(0:Int)≤(↑(n+(1:Nat)):Int)∧(↑(n+(1:Nat)):Int)≤(↑(n+(1:Nat)):Int)∧(↑(n+(1:Nat)):Int)* (↑(MD.P.bytesOf (3:Nat)):Int)≤(↑room:Int)∧(↑(n+(1:Nat)):Int)≤(↑room:Int),decide ((↑(n+(1:Nat)):Int)=(0:Int))=false,fC [PV.lit (Value.int IntKind.i64 (0:Int))] (↑(n+(1:Nat)):Int).toNat cs0,aX MD t20 k (88:Nat) (0:Nat) (St.mk [(0,AV.pv (PV.sl 1 n cs)),(1,AV.pv (PV.sl 1 m ds)),(5,AV.bs 18 0 1 (↑(n+(1:Nat)):Int).toNat),(6,AV.pv (PV.lit (Value.int IntKind.i64 (0:Int)))),(7,AV.pv (PV.lit (Value.int IntKind.i64 (0:Int))))] [(18,cs0)] [] []) (Xt.exit 0) (St.mk [(0,AV.pv (PV.sl 1 n cs)),(1,AV.pv (PV.sl 1 m ds)),(5,AV.bs 18 0 1 (n+(1:Nat))),(6,AV.pv (PV.lit (Value.int IntKind.i64 c))),(7,AV.pv (PV.lit (Value.int IntKind.i64 (↑n:Int)))),(22,AV.pv (PV.lit (Value.bool false)))] [(18,es)] [] []),aJ (↑n:Int) (n+(1:Nat)) n,(0:Nat)+n* (1:Nat)+(iv c).cells.length≤es.length,bZ es ((0:Nat)+n* (1:Nat)) [PV.lit (Value.int IntKind.i64 c)] fs,ey t20 140 [MA.g fs 0 1 (n+(1:Nat))] (MR.gs 0 r) fs,cF fs 0 (r* ((18:Nat),(1:Nat)).snd) gs]):=by kernel_rfl
theorem Ry (k n m i x y:Nat) (c c1 c2 c3 d:Int) (cs ds es es':List PV):ay MD t20 k 88 0 ⟨[(0, .pv (.sl 1 n cs)),(1, .pv (.sl 1 m ds)),(5, .bs 18 0 1 (n+1)),(6, .pv (iv c)),(7, .pv (iv i))],[(18,es)],[],[]⟩ [.c true, .a 28 [iv x], .i 30 c1, .c true, .a 38 [iv y], .i 40 c2, .i 44 d, .j 45 i, .s es', .i 47 c3, .i 24 (i+1:Nat)]=
 some ((Xt.normal,St.mk [(0,AV.pv (PV.sl 1 n cs)),(1,AV.pv (PV.sl 1 m ds)),(5,AV.bs 18 0 1 (n+(1:Nat))),(6,AV.pv (PV.lit (Value.int IntKind.i64 c3))),(7,AV.pv (PV.lit (Value.int IntKind.i64 (↑(i+(1:Nat)):Int))))] [(18,es')] [] []),[],[decide ((↑i:Int)<(↑n:Int))=true,aK cs 1 (↑i:Int) n [PV.lit (Value.int IntKind.i64 (↑x:Int))],IntKind.i64.wrap (c+(↑x:Int))=c1,decide ((↑i:Int)<(↑m:Int))=true,aK ds 1 (↑i:Int) m [PV.lit (Value.int IntKind.i64 (↑y:Int))],IntKind.i64.wrap (c1+(↑y:Int))=c2,c2.tmod (16777216:Int)=d,false=false,aJ (↑i:Int) (n+(1:Nat)) i,(0:Nat)+i* (1:Nat)+(PV.lit (Value.int IntKind.i64 d)).cells.length≤es.length,bZ es ((0:Nat)+i* (1:Nat)) [PV.lit (Value.int IntKind.i64 d)] es',IntKind.i64.wrap (c2.tdiv (16777216:Int))=c3,false=false,IntKind.i64.wrap ((↑i:Int)+(1:Int))=(↑(i+(1:Nat)):Int)]):=by kernel_rfl
theorem Rz (k n m i x:Nat) (c c1 c3 d:Int) (cs ds es es':List PV):ay MD t20 k 88 0 ⟨[(0, .pv (.sl 1 n cs)),(1, .pv (.sl 1 m ds)),(5, .bs 18 0 1 (n+1)),(6, .pv (iv c)),(7, .pv (iv i))],[(18,es)],[],[]⟩ [.c true, .a 28 [iv x], .i 30 c1, .c false, .i 44 d, .j 45 i, .s es', .i 47 c3, .i 24 (i+1:Nat)]=
 some ((Xt.normal,St.mk [(0,AV.pv (PV.sl 1 n cs)),(1,AV.pv (PV.sl 1 m ds)),(5,AV.bs 18 0 1 (n+(1:Nat))),(6,AV.pv (PV.lit (Value.int IntKind.i64 c3))),(7,AV.pv (PV.lit (Value.int IntKind.i64 (↑(i+(1:Nat)):Int))))] [(18,es')] [] []),[],[decide ((↑i:Int)<(↑n:Int))=true,aK cs 1 (↑i:Int) n [PV.lit (Value.int IntKind.i64 (↑x:Int))],IntKind.i64.wrap (c+(↑x:Int))=c1,decide ((↑i:Int)<(↑m:Int))=false,c1.tmod (16777216:Int)=d,false=false,aJ (↑i:Int) (n+(1:Nat)) i,(0:Nat)+i* (1:Nat)+(PV.lit (Value.int IntKind.i64 d)).cells.length≤es.length,bZ es ((0:Nat)+i* (1:Nat)) [PV.lit (Value.int IntKind.i64 d)] es',IntKind.i64.wrap (c1.tdiv (16777216:Int))=c3,false=false,IntKind.i64.wrap ((↑i:Int)+(1:Int))=(↑(i+(1:Nat)):Int)]):=by kernel_rfl
theorem RA (k n m i:Nat) (c:Int) (cs ds es:List PV):ay MD t20 k 88 0 ⟨[(0, .pv (.sl 1 n cs)),(1, .pv (.sl 1 m ds)),(5, .bs 18 0 1 (n+1)),(6, .pv (iv c)),(7, .pv (iv i))],[(18,es)],[],[]⟩ [.c false]=
 some ((Xt.exit 0,St.mk [(0,AV.pv (PV.sl 1 n cs)),(1,AV.pv (PV.sl 1 m ds)),(5,AV.bs 18 0 1 (n+(1:Nat))),(6,AV.pv (PV.lit (Value.int IntKind.i64 c))),(7,AV.pv (PV.lit (Value.int IntKind.i64 (↑i:Int)))),(22,AV.pv (PV.lit (Value.bool false)))] [(18,es)] [] []),[],[decide ((↑i:Int)<(↑n:Int))=false]):=by kernel_rfl
theorem Vv (k n m r:Nat) (c:Int) (cs ds cs0 es gs:List PV):aA MD t20 k 91 [.sl 1 n cs, .sl 1 m ds] [.c false, .f cs0, .l (.exit 0) ⟨[(0, .pv (.sl 1 n cs)),(1, .pv (.sl 1 m ds)),(5, .bs 11 0 1 n),(6, .pv (iv c)),(7, .pv (iv n)),(15, .pv (bv false))],[(11,es)],[],[]⟩, .m (.gs 0 r) es, .f gs]=
 some (RV.mk (PV.sl 1 r gs) (some 1),[(0:Int)≤(↑n:Int)∧(↑n:Int)≤(↑n:Int)∧(↑n:Int)* (↑(MD.P.bytesOf (3:Nat)):Int)≤(↑room:Int)∧(↑n:Int)≤(↑room:Int),decide ((↑n:Int)=(0:Int))=false,fC [PV.lit (Value.int IntKind.i64 (0:Int))] n cs0,aX MD t20 k (91:Nat) (0:Nat) (St.mk [(0,AV.pv (PV.sl 1 n cs)),(1,AV.pv (PV.sl 1 m ds)),(5,AV.bs 11 0 1 n),(6,AV.pv (PV.lit (Value.int IntKind.i64 (0:Int)))),(7,AV.pv (PV.lit (Value.int IntKind.i64 (0:Int))))] [(11,cs0)] [] []) (Xt.exit 0) (St.mk [(0,AV.pv (PV.sl 1 n cs)),(1,AV.pv (PV.sl 1 m ds)),(5,AV.bs 11 0 1 n),(6,AV.pv (PV.lit (Value.int IntKind.i64 c))),(7,AV.pv (PV.lit (Value.int IntKind.i64 (↑n:Int)))),(15,AV.pv (PV.lit (Value.bool false)))] [(11,es)] [] []),ey t20 140 [MA.g es 0 1 n] (MR.gs 0 r) es,cF es 0 (r* ((11:Nat),(1:Nat)).snd) gs]):=by kernel_rfl
theorem QW (k n m i x y:Nat) (c c1 c2:Int) (cs ds es es':List PV):ay MD t20 k 91 0 ⟨[(0, .pv (.sl 1 n cs)),(1, .pv (.sl 1 m ds)),(5, .bs 11 0 1 n),(6, .pv (iv c)),(7, .pv (iv i))],[(11,es)],[],[]⟩ [.c true, .a 20 [iv x], .i 23 c1, .c true, .a 31 [iv y], .i 33 c2, .c false, .j 41 i, .s es', .i 17 (i+1:Nat)]=
 some ((Xt.normal,St.mk [(0,AV.pv (PV.sl 1 n cs)),(1,AV.pv (PV.sl 1 m ds)),(5,AV.bs 11 0 1 n),(6,AV.pv (PV.lit (Value.int IntKind.i64 (0:Int)))),(7,AV.pv (PV.lit (Value.int IntKind.i64 (↑(i+(1:Nat)):Int))))] [(11,es')] [] []),[],[decide ((↑i:Int)<(↑n:Int))=true,aK cs 1 (↑i:Int) n [PV.lit (Value.int IntKind.i64 (↑x:Int))],IntKind.i64.wrap ((↑x:Int) - c)=c1,decide ((↑i:Int)<(↑m:Int))=true,aK ds 1 (↑i:Int) m [PV.lit (Value.int IntKind.i64 (↑y:Int))],IntKind.i64.wrap (c1 - (↑y:Int))=c2,decide (c2<(0:Int))=false,aJ (↑i:Int) n i,(0:Nat)+i* (1:Nat)+(PV.lit (Value.int IntKind.i64 c2)).cells.length≤es.length,bZ es ((0:Nat)+i* (1:Nat)) [PV.lit (Value.int IntKind.i64 c2)] es',IntKind.i64.wrap ((↑i:Int)+(1:Int))=(↑(i+(1:Nat)):Int)]):=by kernel_rfl
theorem QX (k n m i x y:Nat) (c c1 c2 c3:Int) (cs ds es es':List PV):ay MD t20 k 91 0 ⟨[(0, .pv (.sl 1 n cs)),(1, .pv (.sl 1 m ds)),(5, .bs 11 0 1 n),(6, .pv (iv c)),(7, .pv (iv i))],[(11,es)],[],[]⟩ [.c true, .a 20 [iv x], .i 23 c1, .c true, .a 31 [iv y], .i 33 c2, .c true, .i 37 c3, .j 41 i, .s es', .i 17 (i+1:Nat)]=
 some ((Xt.normal,St.mk [(0,AV.pv (PV.sl 1 n cs)),(1,AV.pv (PV.sl 1 m ds)),(5,AV.bs 11 0 1 n),(6,AV.pv (PV.lit (Value.int IntKind.i64 (1:Int)))),(7,AV.pv (PV.lit (Value.int IntKind.i64 (↑(i+(1:Nat)):Int))))] [(11,es')] [] []),[],[decide ((↑i:Int)<(↑n:Int))=true,aK cs 1 (↑i:Int) n [PV.lit (Value.int IntKind.i64 (↑x:Int))],IntKind.i64.wrap ((↑x:Int) - c)=c1,decide ((↑i:Int)<(↑m:Int))=true,aK ds 1 (↑i:Int) m [PV.lit (Value.int IntKind.i64 (↑y:Int))],IntKind.i64.wrap (c1 - (↑y:Int))=c2,decide (c2<(0:Int))=true,IntKind.i64.wrap (c2+(16777216:Int))=c3,aJ (↑i:Int) n i,(0:Nat)+i* (1:Nat)+(PV.lit (Value.int IntKind.i64 c3)).cells.length≤es.length,bZ es ((0:Nat)+i* (1:Nat)) [PV.lit (Value.int IntKind.i64 c3)] es',IntKind.i64.wrap ((↑i:Int)+(1:Int))=(↑(i+(1:Nat)):Int)]):=by kernel_rfl
theorem QY (k n m i x:Nat) (c c1:Int) (cs ds es es':List PV):ay MD t20 k 91 0 ⟨[(0, .pv (.sl 1 n cs)),(1, .pv (.sl 1 m ds)),(5, .bs 11 0 1 n),(6, .pv (iv c)),(7, .pv (iv i))],[(11,es)],[],[]⟩ [.c true, .a 20 [iv x], .i 23 c1, .c false, .c false, .j 41 i, .s es', .i 17 (i+1:Nat)]=
 some ((Xt.normal,St.mk [(0,AV.pv (PV.sl 1 n cs)),(1,AV.pv (PV.sl 1 m ds)),(5,AV.bs 11 0 1 n),(6,AV.pv (PV.lit (Value.int IntKind.i64 (0:Int)))),(7,AV.pv (PV.lit (Value.int IntKind.i64 (↑(i+(1:Nat)):Int))))] [(11,es')] [] []),[],[decide ((↑i:Int)<(↑n:Int))=true,aK cs 1 (↑i:Int) n [PV.lit (Value.int IntKind.i64 (↑x:Int))],IntKind.i64.wrap ((↑x:Int) - c)=c1,decide ((↑i:Int)<(↑m:Int))=false,decide (c1<(0:Int))=false,aJ (↑i:Int) n i,(0:Nat)+i* (1:Nat)+(PV.lit (Value.int IntKind.i64 c1)).cells.length≤es.length,bZ es ((0:Nat)+i* (1:Nat)) [PV.lit (Value.int IntKind.i64 c1)] es',IntKind.i64.wrap ((↑i:Int)+(1:Int))=(↑(i+(1:Nat)):Int)]):=by kernel_rfl
theorem QZ (k n m i x:Nat) (c c1 c3:Int) (cs ds es es':List PV):ay MD t20 k 91 0 ⟨[(0, .pv (.sl 1 n cs)),(1, .pv (.sl 1 m ds)),(5, .bs 11 0 1 n),(6, .pv (iv c)),(7, .pv (iv i))],[(11,es)],[],[]⟩ [.c true, .a 20 [iv x], .i 23 c1, .c false, .c true, .i 37 c3, .j 41 i, .s es', .i 17 (i+1:Nat)]=
 some ((Xt.normal,St.mk [(0,AV.pv (PV.sl 1 n cs)),(1,AV.pv (PV.sl 1 m ds)),(5,AV.bs 11 0 1 n),(6,AV.pv (PV.lit (Value.int IntKind.i64 (1:Int)))),(7,AV.pv (PV.lit (Value.int IntKind.i64 (↑(i+(1:Nat)):Int))))] [(11,es')] [] []),[],[decide ((↑i:Int)<(↑n:Int))=true,aK cs 1 (↑i:Int) n [PV.lit (Value.int IntKind.i64 (↑x:Int))],IntKind.i64.wrap ((↑x:Int) - c)=c1,decide ((↑i:Int)<(↑m:Int))=false,decide (c1<(0:Int))=true,IntKind.i64.wrap (c1+(16777216:Int))=c3,aJ (↑i:Int) n i,(0:Nat)+i* (1:Nat)+(PV.lit (Value.int IntKind.i64 c3)).cells.length≤es.length,bZ es ((0:Nat)+i* (1:Nat)) [PV.lit (Value.int IntKind.i64 c3)] es',IntKind.i64.wrap ((↑i:Int)+(1:Int))=(↑(i+(1:Nat)):Int)]):=by kernel_rfl
theorem Q0 (k n m i:Nat) (c:Int) (cs ds es:List PV):ay MD t20 k 91 0 ⟨[(0, .pv (.sl 1 n cs)),(1, .pv (.sl 1 m ds)),(5, .bs 11 0 1 n),(6, .pv (iv c)),(7, .pv (iv i))],[(11,es)],[],[]⟩ [.c false]=
 some ((Xt.exit 0,St.mk [(0,AV.pv (PV.sl 1 n cs)),(1,AV.pv (PV.sl 1 m ds)),(5,AV.bs 11 0 1 n),(6,AV.pv (PV.lit (Value.int IntKind.i64 c))),(7,AV.pv (PV.lit (Value.int IntKind.i64 (↑i:Int)))),(15,AV.pv (PV.lit (Value.bool false)))] [(11,es)] [] []),[],[decide ((↑i:Int)<(↑n:Int))=false]):=by kernel_rfl
theorem Xe (k n r:Nat) (c b:Int) (cs cs0 es fs gs:List PV):aA MD t20 k 92 [.sl 1 n cs,iv b] [.i 10 (n+1:Nat), .c false, .f cs0, .l (.exit 0) ⟨[(0, .pv (.sl 1 n cs)),(5, .bs 11 0 1 (n+1)),(6, .pv (iv c)),(7, .pv (iv n)),(16, .pv (bv false))],[(11,es)],[],[]⟩, .j 37 n, .s fs, .m (.gs 0 r) fs, .f gs]=
 some (RV.mk (PV.sl 1 r gs) (some 1),[IntKind.i64.wrap ((↑n:Int)+(1:Int))=(↑(n+(1:Nat)):Int),(0:Int)≤(↑(n+(1:Nat)):Int)∧(↑(n+(1:Nat)):Int)≤(↑(n+(1:Nat)):Int)∧(↑(n+(1:Nat)):Int)* (↑(MD.P.bytesOf (3:Nat)):Int)≤(↑room:Int)∧(↑(n+(1:Nat)):Int)≤(↑room:Int),decide ((↑(n+(1:Nat)):Int)=(0:Int))=false,fC [PV.lit (Value.int IntKind.i64 (0:Int))] (↑(n+(1:Nat)):Int).toNat cs0,aX MD t20 k (92:Nat) (0:Nat) (St.mk [(0,AV.pv (PV.sl 1 n cs)),(5,AV.bs 11 0 1 (↑(n+(1:Nat)):Int).toNat),(6,AV.pv (PV.lit (Value.int IntKind.i64 b))),(7,AV.pv (PV.lit (Value.int IntKind.i64 (0:Int))))] [(11,cs0)] [] []) (Xt.exit 0) (St.mk [(0,AV.pv (PV.sl 1 n cs)),(5,AV.bs 11 0 1 (n+(1:Nat))),(6,AV.pv (PV.lit (Value.int IntKind.i64 c))),(7,AV.pv (PV.lit (Value.int IntKind.i64 (↑n:Int)))),(16,AV.pv (PV.lit (Value.bool false)))] [(11,es)] [] []),aJ (↑n:Int) (n+(1:Nat)) n,(0:Nat)+n* (1:Nat)+(iv c).cells.length≤es.length,bZ es ((0:Nat)+n* (1:Nat)) [PV.lit (Value.int IntKind.i64 c)] fs,ey t20 140 [MA.g fs 0 1 (n+(1:Nat))] (MR.gs 0 r) fs,cF fs 0 (r* ((11:Nat),(1:Nat)).snd) gs]):=by kernel_rfl
theorem R8 (k n i x:Nat) (c c1 c2 c3 d:Int) (cs es es':List PV):ay MD t20 k 92 0 ⟨[(0, .pv (.sl 1 n cs)),(5, .bs 11 0 1 (n+1)),(6, .pv (iv c)),(7, .pv (iv i))],[(11,es)],[],[]⟩ [.c true, .a 22 [iv x], .i 24 c1, .i 25 c2, .i 29 d, .j 30 i, .s es', .i 32 c3, .i 18 (i+1:Nat)]=
 some ((Xt.normal,St.mk [(0,AV.pv (PV.sl 1 n cs)),(5,AV.bs 11 0 1 (n+(1:Nat))),(6,AV.pv (PV.lit (Value.int IntKind.i64 c3))),(7,AV.pv (PV.lit (Value.int IntKind.i64 (↑(i+(1:Nat)):Int))))] [(11,es')] [] []),[],[decide ((↑i:Int)<(↑n:Int))=true,aK cs 1 (↑i:Int) n [PV.lit (Value.int IntKind.i64 (↑x:Int))],IntKind.i64.wrap ((2:Int)* (↑x:Int))=c1,IntKind.i64.wrap (c+c1)=c2,c2.tmod (16777216:Int)=d,false=false,aJ (↑i:Int) (n+(1:Nat)) i,(0:Nat)+i* (1:Nat)+(PV.lit (Value.int IntKind.i64 d)).cells.length≤es.length,bZ es ((0:Nat)+i* (1:Nat)) [PV.lit (Value.int IntKind.i64 d)] es',IntKind.i64.wrap (c2.tdiv (16777216:Int))=c3,false=false,IntKind.i64.wrap ((↑i:Int)+(1:Int))=(↑(i+(1:Nat)):Int)]):=by kernel_rfl
theorem R9 (k n i:Nat) (c:Int) (cs es:List PV):ay MD t20 k 92 0 ⟨[(0, .pv (.sl 1 n cs)),(5, .bs 11 0 1 (n+1)),(6, .pv (iv c)),(7, .pv (iv i))],[(11,es)],[],[]⟩ [.c false]=
 some ((Xt.exit 0,St.mk [(0,AV.pv (PV.sl 1 n cs)),(5,AV.bs 11 0 1 (n+(1:Nat))),(6,AV.pv (PV.lit (Value.int IntKind.i64 c))),(7,AV.pv (PV.lit (Value.int IntKind.i64 (↑i:Int)))),(16,AV.pv (PV.lit (Value.bool false)))] [(11,es)] [] []),[],[decide ((↑i:Int)<(↑n:Int))=false]):=by kernel_rfl
theorem VT (k n m:Nat) (cs ds:List PV):aA MD t0 k 90 [.sl 1 n cs, .sl 1 m ds] [.c true, .c true]=
 some (RV.mk (PV.lit (Value.int IntKind.i64 (-1:Int))) none,[((↑n:Int) !=(↑m:Int))=true,decide ((↑n:Int)<(↑m:Int))=true]):=by kernel_rfl
theorem VU (k n m:Nat) (cs ds:List PV):aA MD t0 k 90 [.sl 1 n cs, .sl 1 m ds] [.c true, .c false]=
 some (RV.mk (PV.lit (Value.int IntKind.i64 (1:Int))) none,[((↑n:Int) !=(↑m:Int))=true,decide ((↑n:Int)<(↑m:Int))=false]):=by kernel_rfl
theorem PI (k n m:Nat) (cs ds:List PV) (i r:Int):aA MD t0 k 90 [.sl 1 n cs, .sl 1 m ds] [.c false, .i 18 i, .l .ret ⟨[(4, .pv (iv r))],[],[],[]⟩]=
 some (RV.mk (PV.lit (Value.int IntKind.i64 r)) none,[((↑n:Int) !=(↑m:Int))=false,IntKind.i64.wrap ((↑n:Int) - (1:Int))=i,aX MD t0 k (90:Nat) (0:Nat) (St.mk [(0,AV.pv (PV.sl 1 n cs)),(1,AV.pv (PV.sl 1 m ds)),(5,AV.pv (PV.lit (Value.int IntKind.i64 i)))] [] [] []) Xt.ret (St.mk [(4,AV.pv (PV.lit (Value.int IntKind.i64 r)))] [] [] [])]):=by kernel_rfl
theorem VV (k n m:Nat) (cs ds:List PV) (i:Int):aA MD t0 k 90 [.sl 1 n cs, .sl 1 m ds] [.c false, .i 18 i, .l (.exit 0) ⟨[(0, .pv (.sl 1 n cs)),(1, .pv (.sl 1 m ds)),(5, .pv (iv (-1))),(20, .pv (bv false))],[],[],[]⟩]=
 some (RV.mk (PV.lit (Value.int IntKind.i64 (0:Int))) none,[((↑n:Int) !=(↑m:Int))=false,IntKind.i64.wrap ((↑n:Int) - (1:Int))=i,aX MD t0 k (90:Nat) (0:Nat) (St.mk [(0,AV.pv (PV.sl 1 n cs)),(1,AV.pv (PV.sl 1 m ds)),(5,AV.pv (PV.lit (Value.int IntKind.i64 i)))] [] [] []) (Xt.exit 0) (St.mk [(0,AV.pv (PV.sl 1 n cs)),(1,AV.pv (PV.sl 1 m ds)),(5,AV.pv (PV.lit (Value.int IntKind.i64 (-1:Int)))),(20,AV.pv (PV.lit (Value.bool false)))] [] [] [])]):=by kernel_rfl
theorem Rr (k n m:Nat) (cs ds:List PV) (i:Int):ay MD t0 k 90 0 ⟨[(0, .pv (.sl 1 n cs)),(1, .pv (.sl 1 m ds)),(5, .pv (iv i))],[],[],[]⟩ [.c false]=
 some ((Xt.exit 0,St.mk [(0,AV.pv (PV.sl 1 n cs)),(1,AV.pv (PV.sl 1 m ds)),(5,AV.pv (PV.lit (Value.int IntKind.i64 i))),(20,AV.pv (PV.lit (Value.bool false)))] [] [] []),[],[decide (i≥(0:Int))=false]):=by kernel_rfl
theorem Rs (k n m x y:Nat) (cs ds:List PV) (i j:Int):ay MD t0 k 90 0 ⟨[(0, .pv (.sl 1 n cs)),(1, .pv (.sl 1 m ds)),(5, .pv (iv i))],[],[],[]⟩ [.c true, .a 25 [iv x], .a 29 [iv y], .c false, .i 22 j]=
 some ((Xt.normal,St.mk [(0,AV.pv (PV.sl 1 n cs)),(1,AV.pv (PV.sl 1 m ds)),(5,AV.pv (PV.lit (Value.int IntKind.i64 j)))] [] [] []),[],[decide (i≥(0:Int))=true,aK cs 1 i n [PV.lit (Value.int IntKind.i64 (↑x:Int))],aK ds 1 i m [PV.lit (Value.int IntKind.i64 (↑y:Int))],((↑x:Int) !=(↑y:Int))=false,IntKind.i64.wrap (i - (1:Int))=j]):=by kernel_rfl
theorem Rt (k n m x y:Nat) (cs ds:List PV) (i:Int):ay MD t0 k 90 0 ⟨[(0, .pv (.sl 1 n cs)),(1, .pv (.sl 1 m ds)),(5, .pv (iv i))],[],[],[]⟩ [.c true, .a 25 [iv x], .a 29 [iv y], .c true, .a 34 [iv x], .a 38 [iv y], .c true]=
 some ((Xt.ret,St.mk [(4,AV.pv (PV.lit (Value.int IntKind.i64 (-1:Int))))] [] [] []),[],[decide (i≥(0:Int))=true,aK cs 1 i n [PV.lit (Value.int IntKind.i64 (↑x:Int))],aK ds 1 i m [PV.lit (Value.int IntKind.i64 (↑y:Int))],((↑x:Int) !=(↑y:Int))=true,aK cs 1 i n [PV.lit (Value.int IntKind.i64 (↑x:Int))],aK ds 1 i m [PV.lit (Value.int IntKind.i64 (↑y:Int))],decide ((↑x:Int)<(↑y:Int))=true]):=by kernel_rfl
theorem Ru (k n m x y:Nat) (cs ds:List PV) (i:Int):ay MD t0 k 90 0 ⟨[(0, .pv (.sl 1 n cs)),(1, .pv (.sl 1 m ds)),(5, .pv (iv i))],[],[],[]⟩ [.c true, .a 25 [iv x], .a 29 [iv y], .c true, .a 34 [iv x], .a 38 [iv y], .c false]=
 some ((Xt.ret,St.mk [(4,AV.pv (PV.lit (Value.int IntKind.i64 (1:Int))))] [] [] []),[],[decide (i≥(0:Int))=true,aK cs 1 i n [PV.lit (Value.int IntKind.i64 (↑x:Int))],aK ds 1 i m [PV.lit (Value.int IntKind.i64 (↑y:Int))],((↑x:Int) !=(↑y:Int))=true,aK cs 1 i n [PV.lit (Value.int IntKind.i64 (↑x:Int))],aK ds 1 i m [PV.lit (Value.int IntKind.i64 (↑y:Int))],decide ((↑x:Int)<(↑y:Int))=false]):=by kernel_rfl
theorem rO:aH MD.P t20:=sE aF (p7 FR oS)
theorem qj {n v:Nat} (hn:n<2^40) (h:v<(16777216:Nat)^n):ey t20 140 [.g ((fd (16777216:Nat) n v).map aE) 0 1 n] (.gs 0 (dg (16777216:Nat) v).length) ((fd (16777216:Nat) n v).map aE):=by
 have:=xU (p:=[]) (l:=fd (16777216:Nat) n v) (by rw [bE];exact hn) (fJ (by decide) _ _)
 rw [ji (by decide),Nat.mod_eq_of_lt h,bE] at this
 exact this
theorem sC {n:Nat} (h:n<2^41):(0:Int)≤(n:Int)∧(n:Int)≤(n:Int)∧(n:Int)* ((MD.P.bytesOf 3:Nat):Int)≤((room:Nat):Int)∧(n:Int)≤((room:Nat):Int):=by
 rw [D4]
 have:((room:Nat):Int)=140737488355328:=rfl
 omega
def SP (a b n m i:Nat) (e:List (Nat×AV)):St:=⟨(0, .pv (.sl 1 n ((dg (16777216:Nat) a).map aE)))::(1, .pv (.sl 1 m ((dg (16777216:Nat) b).map aE)))::(5, .bs 18 0 1 (n+1))::(6, .pv (iv ((a+b) / (16777216:Nat)^i - a / (16777216:Nat)^i - b / (16777216:Nat)^i:Nat)))::(7, .pv (iv i))::e,[(18,(bW (16777216:Nat) (n+1) i (a+b)).map aE)],[],[]⟩
theorem HK (k a b n m i:Nat) (hn:n=(dg (16777216:Nat) a).length) (hm:m=(dg (16777216:Nat) b).length) (hi:i<n) (hs:n<2^40):aU MD t20 k 88 0 (SP a b n m i [])=some (.normal,SP a b n m (i+1) []):=by
 have hx:=iC (b:=(16777216:Nat)) (v:=a) (by decide) (i:=i) (by omega)
 have hc:=yM a b i
 have s1:=cr a (16777216:Nat) i
 have s2:=cr b (16777216:Nat) i
 have s3:=cr (a+b) (16777216:Nat) i
 have hstep:=iD (b:=(16777216:Nat)) (n:=n+1) (i:=i) (v:=a+b) (by omega)
 have hsp:bZ ((bW (16777216:Nat) (n+1) i (a+b)).map aE) (0+i* 1) [aE ((a+b) / (16777216:Nat)^i%(16777216:Nat))] ((bW (16777216:Nat) (n+1) (i+1) (a+b)).map aE):=l9 hstep (by rw [ee (by omega)];omega) (by omega)
 have hle:0+i* 1+(aE ((a+b) / (16777216:Nat)^i%(16777216:Nat))).cells.length≤((bW (16777216:Nat) (n+1) i (a+b)).map aE).length:=by
  rw [List.length_map,ee (by omega)];show _+1≤_;omega
 have gm:aK ((dg (16777216:Nat) a).map aE) 1 (i:Int) n [aE (a / (16777216:Nat)^i%(16777216:Nat))]:=by rw [hn];exact jR hx rfl
 unfold SP
 rw [s1,s2,s3]
 generalize hu:a / (16777216:Nat)^i=u at*
 generalize hv:b / (16777216:Nat)^i=v at*
 generalize hw:(a+b) / (16777216:Nat)^i=w at*
 obtain ⟨x,hx0⟩:∃x,x=u%(16777216:Nat):=⟨_,rfl⟩
 obtain ⟨y,hy0⟩:∃y,y=v%(16777216:Nat):=⟨_,rfl⟩
 rw [←hx0] at gm
 obtain ⟨c,hc0⟩:∃c,c=w - u - v:=⟨_,rfl⟩
 by_cases zC:i<m
 · have hy:=iC (b:=(16777216:Nat)) (v:=b) (by decide) (i:=i) (by omega)
   rw [hv,←hy0] at hy
   have gW:aK ((dg (16777216:Nat) b).map aE) 1 (i:Int) m [aE y]:=by rw [hm];exact jR hy rfl
   have e1:(c+x+y)%(16777216:Nat)=w%(16777216:Nat):=by omega
   have e2:(c+x+y) / (16777216:Nat)=w / (16777216:Nat) - u / (16777216:Nat) - v / (16777216:Nat):=by omega
   have key:=Ry k n m i x y (c:Nat) ((c+x:Nat):Int) ((c+x+y:Nat):Int) ((w / (16777216:Nat) - u / (16777216:Nat) - v / (16777216:Nat):Nat):Int) ((w%(16777216:Nat):Nat):Int) ((dg (16777216:Nat) a).map aE) ((dg (16777216:Nat) b).map aE) ((bW (16777216:Nat) (n+1) i (a+b)).map aE) ((bW (16777216:Nat) (n+1) (i+1) (a+b)).map aE)
   rw [←hc0]
   exact aq key ⟨decide_eq_true (by omega),gm,aR (by omega) (by omega),decide_eq_true (by omega),gW,aR (by omega) (by omega),by rw [←e1];exact fQ _ _,rfl,⟨rfl,by omega⟩,hle,hsp,by rw [←e2];exact aR (gP _ _) (by omega),rfl,aR (by omega) (by omega),trivial⟩
 · have hy:=lS (b:=(16777216:Nat)) (v:=b) (by decide) (i:=i) (by omega)
   rw [hv] at hy
   have e1:(c+x)%(16777216:Nat)=w%(16777216:Nat):=by omega
   have e2:(c+x) / (16777216:Nat)=w / (16777216:Nat) - u / (16777216:Nat) - v / (16777216:Nat):=by omega
   have key:=Rz k n m i x (c:Nat) ((c+x:Nat):Int) ((w / (16777216:Nat) - u / (16777216:Nat) - v / (16777216:Nat):Nat):Int) ((w%(16777216:Nat):Nat):Int) ((dg (16777216:Nat) a).map aE) ((dg (16777216:Nat) b).map aE) ((bW (16777216:Nat) (n+1) i (a+b)).map aE) ((bW (16777216:Nat) (n+1) (i+1) (a+b)).map aE)
   rw [←hc0]
   exact aq key ⟨decide_eq_true (by omega),gm,aR (by omega) (by omega),decide_eq_false (by omega),by rw [←e1];exact fQ _ _,rfl,⟨rfl,by omega⟩,hle,hsp,by rw [←e2];exact aR (gP _ _) (by omega),rfl,aR (by omega) (by omega),trivial⟩
theorem B6 (k a b n m:Nat) (hn:n=(dg (16777216:Nat) a).length) (hm:m=(dg (16777216:Nat) b).length) (hk:n<k) (hs:n<2^40):bh (aU MD t20 k 88 0) k (SP a b n m 0 [])=some (.exit 0,SP a b n m n [(22, .pv (bv false))]):=
 bK (f:=aU MD t20 k 88 0) (S:=fun i=>SP a b n m i []) (n:=n) (fun i hi=>HK k a b n m i hn hm hi hs)
  (aq (RA k n m n ((a+b) / (16777216:Nat)^n - a / (16777216:Nat)^n - b / (16777216:Nat)^n:Nat) ((dg (16777216:Nat) a).map aE) ((dg (16777216:Nat) b).map aE) ((bW (16777216:Nat) (n+1) n (a+b)).map aE)) ⟨decide_eq_false (by omega),trivial⟩) (by simp) k hk
theorem Ij (a b:Nat) (ha:(dg (16777216:Nat) a).length<2^39) (hb:(dg (16777216:Nat) b).length<2^39):az P0 88 [ni (dg (16777216:Nat) a),ni (dg (16777216:Nat) b)] ⟨ni (dg (16777216:Nat) (a+b)),some 1⟩:=by
 have key:∀a b n m:Nat,n=(dg (16777216:Nat) a).length→m=(dg (16777216:Nat) b).length→n<2^39→m≤n→
   a+b<(16777216:Nat)^(n+1)∧bZ ((bW (16777216:Nat) (n+1) n (a+b)).map aE) (0+n* 1) [iv ((a+b) / (16777216:Nat)^n - a / (16777216:Nat)^n - b / (16777216:Nat)^n:Nat)] ((fd (16777216:Nat) (n+1) (a+b)).map aE)∧0+n* 1+(iv ((a+b) / (16777216:Nat)^n - a / (16777216:Nat)^n - b / (16777216:Nat)^n:Nat)).cells.length≤((bW (16777216:Nat) (n+1) n (a+b)).map aE).length:=by
  intro a b n m hn hm hs hmn
  have h1:=cz (b:=(16777216:Nat)) (n:=a) (by decide)
  have h2:=cz (b:=(16777216:Nat)) (n:=b) (by decide)
  have h3:(16777216:Nat)^(dg (16777216:Nat) b).length≤(16777216:Nat)^n:=Nat.pow_le_pow_right (by decide) (by omega)
  rw [←hn] at h1
  have hlt:a+b<(16777216:Nat)^(n+1):=by rw [Nat.pow_succ];omega
  have z1:=lS (b:=(16777216:Nat)) (v:=a) (i:=n) (by decide) (by omega)
  have z2:=lS (b:=(16777216:Nat)) (v:=b) (i:=n) (by decide) (by omega)
  have hc:=yM a b n
  rw [z1,z2,Nat.sub_zero,Nat.sub_zero]
  rw [z1,z2] at hc
  have hstep:=iD (b:=(16777216:Nat)) (n:=n+1) (i:=n) (v:=a+b) (by omega)
  rw [oG,Nat.mod_eq_of_lt (by omega)] at hstep
  refine ⟨hlt,l9 (c:=aE) hstep (by rw [ee (by omega)];omega) (by omega), ?_⟩
  rw [List.length_map,ee (by omega)];show _+1≤_;omega
 have fin:∀v n:Nat,v<(16777216:Nat)^(n+1)→cF ((fd (16777216:Nat) (n+1) v).map aE) 0 ((dg (16777216:Nat) v).length* 1) ((dg (16777216:Nat) v).map aE):=fun v n h=>o7 _ _ _ (by rw [List.drop_zero,Nat.mul_one];exact tL (by decide) h)
 obtain ⟨k,hk⟩:∃k,k=(dg (16777216:Nat) a).length+(dg (16777216:Nat) b).length+1:=⟨_,rfl⟩
 by_cases h:(dg (16777216:Nat) a).length<(dg (16777216:Nat) b).length
 · obtain ⟨k1,k2,k3⟩:=key b a _ _ rfl rfl hb (by omega)
   have lp:=B6 k b a _ _ rfl rfl (by omega) (by omega)
   have z:=kO (c:=aE) (n:=(dg (16777216:Nat) b).length+1)
   rw [←jB (16777216:Nat) ((dg (16777216:Nat) b).length+1) (b+a)] at z
   have tr:=qj (n:=(dg (16777216:Nat) b).length+1) (v:=b+a) (by omega) k1
   rw [Nat.add_comm a b]
   have c0:((b+a) / (16777216:Nat)^0 - b / (16777216:Nat)^0 - a / (16777216:Nat)^0:Nat)=0:=by simp
   unfold SP at lp
   rw [c0] at lp
   exact aj ah rO (by rfl) (V2 k _ _ _ _ _ _ ((bW (16777216:Nat) ((dg (16777216:Nat) b).length+1) 0 (b+a)).map aE) _ ((fd (16777216:Nat) ((dg (16777216:Nat) b).length+1) (b+a)).map aE) _) ⟨decide_eq_true (by omega),aR (by omega) (by omega),sC (by omega),decide_eq_false (by omega),z,lp,⟨rfl,by omega⟩,k3,k2,tr,fin _ _ k1,trivial⟩
 · obtain ⟨k1,k2,k3⟩:=key a b _ _ rfl rfl ha (by omega)
   have lp:=B6 k a b _ _ rfl rfl (by omega) (by omega)
   have z:=kO (c:=aE) (n:=(dg (16777216:Nat) a).length+1)
   rw [←jB (16777216:Nat) ((dg (16777216:Nat) a).length+1) (a+b)] at z
   have tr:=qj (n:=(dg (16777216:Nat) a).length+1) (v:=a+b) (by omega) k1
   have c0:((a+b) / (16777216:Nat)^0 - a / (16777216:Nat)^0 - b / (16777216:Nat)^0:Nat)=0:=by simp
   unfold SP at lp
   rw [c0] at lp
   exact aj ah rO (by rfl) (V1 k _ _ _ _ _ _ ((bW (16777216:Nat) ((dg (16777216:Nat) a).length+1) 0 (a+b)).map aE) _ ((fd (16777216:Nat) ((dg (16777216:Nat) a).length+1) (a+b)).map aE) _) ⟨decide_eq_false (by omega),aR (by omega) (by omega),sC (by omega),decide_eq_false (by omega),z,lp,⟨rfl,by omega⟩,k3,k2,tr,fin _ _ k1,trivial⟩
def SM (v b n m i:Nat) (e:List (Nat×AV)):St:=⟨(0, .pv (.sl 1 n ((dg (16777216:Nat) (b+v)).map aE)))::(1, .pv (.sl 1 m ((dg (16777216:Nat) b).map aE)))::(5, .bs 11 0 1 n)::(6, .pv (iv ((b+v) / (16777216:Nat)^i - b / (16777216:Nat)^i - v / (16777216:Nat)^i:Nat)))::(7, .pv (iv i))::e,[(11,(bW (16777216:Nat) n i v).map aE)],[],[]⟩
theorem Hy (k v b n m i:Nat) (hn:n=(dg (16777216:Nat) (b+v)).length) (hm:m=(dg (16777216:Nat) b).length) (hi:i<n) (hs:n<2^40):aU MD t20 k 91 0 (SM v b n m i [])=some (.normal,SM v b n m (i+1) []):=by
 have hx:=iC (b:=(16777216:Nat)) (v:=b+v) (by decide) (i:=i) (by omega)
 have hc:=yM b v i
 have zq:=yM b v (i+1)
 have s1:=cr (b+v) (16777216:Nat) i
 have s2:=cr b (16777216:Nat) i
 have s3:=cr v (16777216:Nat) i
 have hstep:=iD (b:=(16777216:Nat)) (n:=n) (i:=i) (v:=v) (by omega)
 have hsp:bZ ((bW (16777216:Nat) n i v).map aE) (0+i* 1) [aE (v / (16777216:Nat)^i%(16777216:Nat))] ((bW (16777216:Nat) n (i+1) v).map aE):=l9 hstep (by rw [ee (by omega)];omega) (by omega)
 have hle:0+i* 1+(aE (v / (16777216:Nat)^i%(16777216:Nat))).cells.length≤((bW (16777216:Nat) n i v).map aE).length:=by
  rw [List.length_map,ee (by omega)];show _+1≤_;omega
 have gm:aK ((dg (16777216:Nat) (b+v)).map aE) 1 (i:Int) n [aE ((b+v) / (16777216:Nat)^i%(16777216:Nat))]:=by rw [hn];exact jR hx rfl
 unfold SM
 rw [s1,s2,s3] at*
 generalize hu:(b+v) / (16777216:Nat)^i=u at*
 generalize hw:b / (16777216:Nat)^i=y0 at*
 generalize hv:v / (16777216:Nat)^i=w at*
 obtain ⟨x,hx0⟩:∃x,x=u%(16777216:Nat):=⟨_,rfl⟩
 obtain ⟨y,hy0⟩:∃y,y=y0%(16777216:Nat):=⟨_,rfl⟩
 rw [←hx0] at gm
 obtain ⟨c,hc0⟩:∃c,c=u - y0 - w:=⟨_,rfl⟩
 rw [←hc0]
 by_cases zC:i<m
 · have hy:=iC (b:=(16777216:Nat)) (v:=b) (by decide) (i:=i) (by omega)
   rw [hw,←hy0] at hy
   have gW:aK ((dg (16777216:Nat) b).map aE) 1 (i:Int) m [aE y]:=by rw [hm];exact jR hy rfl
   by_cases hneg:x<c+y
   · have e1:u / (16777216:Nat) - y0 / (16777216:Nat) - w / (16777216:Nat)=1:=by omega
     rw [e1]
     have key:=QX k n m i x y (c:Nat) ((x:Int) - (c:Int)) ((x:Int) - (c:Int) - (y:Int)) ((w%(16777216:Nat):Nat):Int) ((dg (16777216:Nat) (b+v)).map aE) ((dg (16777216:Nat) b).map aE) ((bW (16777216:Nat) n i v).map aE) ((bW (16777216:Nat) n (i+1) v).map aE)
     exact aq key ⟨decide_eq_true (by omega),gm,wrap64 (by omega) (by omega),decide_eq_true (by omega),gW,wrap64 (by omega) (by omega),decide_eq_true (by omega),aR (by omega) (by omega),⟨rfl,by omega⟩,hle,hsp,aR (by omega) (by omega),trivial⟩
   · have e1:u / (16777216:Nat) - y0 / (16777216:Nat) - w / (16777216:Nat)=0:=by omega
     rw [e1]
     have key:=QW k n m i x y (c:Nat) ((x:Int) - (c:Int)) ((w%(16777216:Nat):Nat):Int) ((dg (16777216:Nat) (b+v)).map aE) ((dg (16777216:Nat) b).map aE) ((bW (16777216:Nat) n i v).map aE) ((bW (16777216:Nat) n (i+1) v).map aE)
     exact aq key ⟨decide_eq_true (by omega),gm,wrap64 (by omega) (by omega),decide_eq_true (by omega),gW,aR (by omega) (by omega),decide_eq_false (by omega),⟨rfl,by omega⟩,hle,hsp,aR (by omega) (by omega),trivial⟩
 · have hy:=lS (b:=(16777216:Nat)) (v:=b) (by decide) (i:=i) (by omega)
   rw [hw] at hy
   by_cases hneg:x<c
   · have e1:u / (16777216:Nat) - y0 / (16777216:Nat) - w / (16777216:Nat)=1:=by omega
     rw [e1]
     have key:=QZ k n m i x (c:Nat) ((x:Int) - (c:Int)) ((w%(16777216:Nat):Nat):Int) ((dg (16777216:Nat) (b+v)).map aE) ((dg (16777216:Nat) b).map aE) ((bW (16777216:Nat) n i v).map aE) ((bW (16777216:Nat) n (i+1) v).map aE)
     exact aq key ⟨decide_eq_true (by omega),gm,wrap64 (by omega) (by omega),decide_eq_false (by omega),decide_eq_true (by omega),aR (by omega) (by omega),⟨rfl,by omega⟩,hle,hsp,aR (by omega) (by omega),trivial⟩
   · have e1:u / (16777216:Nat) - y0 / (16777216:Nat) - w / (16777216:Nat)=0:=by omega
     rw [e1]
     have key:=QY k n m i x (c:Nat) ((w%(16777216:Nat):Nat):Int) ((dg (16777216:Nat) (b+v)).map aE) ((dg (16777216:Nat) b).map aE) ((bW (16777216:Nat) n i v).map aE) ((bW (16777216:Nat) n (i+1) v).map aE)
     exact aq key ⟨decide_eq_true (by omega),gm,aR (by omega) (by omega),decide_eq_false (by omega),decide_eq_false (by omega),⟨rfl,by omega⟩,hle,hsp,aR (by omega) (by omega),trivial⟩
theorem FM (a b:Nat) (h:b≤a) (ha0:0<a) (ha:(dg (16777216:Nat) a).length<2^39):az P0 91 [ni (dg (16777216:Nat) a),ni (dg (16777216:Nat) b)] ⟨ni (dg (16777216:Nat) (a - b)),some 1⟩:=by
 obtain ⟨v,rfl⟩:=Nat.exists_eq_add_of_le h
 rw [Nat.add_sub_cancel_left]
 obtain ⟨n,hn⟩:∃n,n=(dg (16777216:Nat) (b+v)).length:=⟨_,rfl⟩
 have hn0:0<n:=by rw [hn,dw (by decide) ha0];simp
 have hlt:v<(16777216:Nat)^n:=by have:=cz (b:=(16777216:Nat)) (n:=b+v) (by decide);rw [←hn] at this;omega
 have lp:=bK (f:=aU MD t20 (n+1) 91 0) (S:=fun i=>SM v b n (dg (16777216:Nat) b).length i []) (n:=n) (fun i hi=>Hy (n+1) v b n _ i hn rfl hi (by omega))
  (aq (Q0 (n+1) n (dg (16777216:Nat) b).length n ((b+v) / (16777216:Nat)^n - b / (16777216:Nat)^n - v / (16777216:Nat)^n:Nat) ((dg (16777216:Nat) (b+v)).map aE) ((dg (16777216:Nat) b).map aE) ((bW (16777216:Nat) n n v).map aE)) ⟨decide_eq_false (by omega),trivial⟩) (by simp) (n+1) (by omega)
 have c0:((b+v) / (16777216:Nat)^0 - b / (16777216:Nat)^0 - v / (16777216:Nat)^0:Nat)=0:=by simp
 unfold SM at lp
 rw [c0] at lp
 have z:=kO (c:=aE) (n:=n)
 rw [←jB (16777216:Nat) n v] at z
 rw [oG] at lp
 have tr:=qj (n:=n) (v:=v) (by omega) hlt
 have fin:cF ((fd (16777216:Nat) n v).map aE) 0 ((dg (16777216:Nat) v).length* 1) ((dg (16777216:Nat) v).map aE):=o7 _ _ _ (by rw [List.drop_zero,Nat.mul_one];exact tL (by decide) hlt)
 have:=aj ah rO (by rfl) (Vv (n+1) n _ _ _ ((dg (16777216:Nat) (b+v)).map aE) _ _ _ _) ⟨sC (by omega),decide_eq_false (by omega),z,lp,tr,fin,trivial⟩
 unfold ni
 rw [←hn]
 exact this
def SW (a e n i:Nat) (l:List (Nat×AV)):St:=⟨(0, .pv (.sl 1 n ((dg (16777216:Nat) a).map aE)))::(5, .bs 11 0 1 (n+1))::(6, .pv (iv ((2* a+e) / (16777216:Nat)^i - 2* (a / (16777216:Nat)^i):Nat)))::(7, .pv (iv i))::l,[(11,(bW (16777216:Nat) (n+1) i (2* a+e)).map aE)],[],[]⟩
theorem Iw (k a e n i:Nat) (he:e≤1) (hn:n=(dg (16777216:Nat) a).length) (hi:i<n) (hs:n<2^40):aU MD t20 k 92 0 (SW a e n i [])=some (.normal,SW a e n (i+1) []):=by
 have hx:=iC (b:=(16777216:Nat)) (v:=a) (by decide) (i:=i) (by omega)
 have hc:=Iy a e he i
 have s1:=cr a (16777216:Nat) i
 have s3:=cr (2* a+e) (16777216:Nat) i
 have hstep:=iD (b:=(16777216:Nat)) (n:=n+1) (i:=i) (v:=2* a+e) (by omega)
 have hsp:bZ ((bW (16777216:Nat) (n+1) i (2* a+e)).map aE) (0+i* 1) [aE ((2* a+e) / (16777216:Nat)^i%(16777216:Nat))] ((bW (16777216:Nat) (n+1) (i+1) (2* a+e)).map aE):=l9 hstep (by rw [ee (by omega)];omega) (by omega)
 have hle:0+i* 1+(aE ((2* a+e) / (16777216:Nat)^i%(16777216:Nat))).cells.length≤((bW (16777216:Nat) (n+1) i (2* a+e)).map aE).length:=by
  rw [List.length_map,ee (by omega)];show _+1≤_;omega
 have gm:aK ((dg (16777216:Nat) a).map aE) 1 (i:Int) n [aE (a / (16777216:Nat)^i%(16777216:Nat))]:=by rw [hn];exact jR hx rfl
 unfold SW
 rw [s1,s3]
 generalize hu:a / (16777216:Nat)^i=u at*
 generalize hw:(2* a+e) / (16777216:Nat)^i=w at*
 obtain ⟨x,hx0⟩:∃x,x=u%(16777216:Nat):=⟨_,rfl⟩
 rw [←hx0] at gm
 obtain ⟨c,hc0⟩:∃c,c=w - 2* u:=⟨_,rfl⟩
 have e1:(c+2* x)%(16777216:Nat)=w%(16777216:Nat):=by omega
 have e2:(c+2* x) / (16777216:Nat)=w / (16777216:Nat) - 2* (u / (16777216:Nat)):=by omega
 have key:=R8 k n i x (c:Nat) ((2* x:Nat):Int) ((c+2* x:Nat):Int) ((w / (16777216:Nat) - 2* (u / (16777216:Nat)):Nat):Int) ((w%(16777216:Nat):Nat):Int) ((dg (16777216:Nat) a).map aE) ((bW (16777216:Nat) (n+1) i (2* a+e)).map aE) ((bW (16777216:Nat) (n+1) (i+1) (2* a+e)).map aE)
 rw [←hc0]
 exact aq key ⟨decide_eq_true (by omega),gm,aR (by omega) (by omega),aR (by omega) (by omega),by rw [←e1];exact fQ _ _,rfl,⟨rfl,by omega⟩,hle,hsp,by rw [←e2];exact aR (gP _ _) (by omega),rfl,aR (by omega) (by omega),trivial⟩
theorem FT (a e:Nat) (he:e≤1) (ha:(dg (16777216:Nat) a).length<2^39):az P0 92 [ni (dg (16777216:Nat) a),iv e] ⟨ni (dg (16777216:Nat) (2* a+e)),some 1⟩:=by
 obtain ⟨n,hn⟩:∃n,n=(dg (16777216:Nat) a).length:=⟨_,rfl⟩
 have h1:=cz (b:=(16777216:Nat)) (n:=a) (by decide)
 rw [←hn] at h1
 have hlt:2* a+e<(16777216:Nat)^(n+1):=by rw [Nat.pow_succ];omega
 have lp:=bK (f:=aU MD t20 (n+1) 92 0) (S:=fun i=>SW a e n i []) (n:=n) (fun i hi=>Iw (n+1) a e n i he hn hi (by omega))
  (aq (R9 (n+1) n n ((2* a+e) / (16777216:Nat)^n - 2* (a / (16777216:Nat)^n):Nat) ((dg (16777216:Nat) a).map aE) ((bW (16777216:Nat) (n+1) n (2* a+e)).map aE)) ⟨decide_eq_false (by omega),trivial⟩) (by simp) (n+1) (by omega)
 have c0:((2* a+e) / (16777216:Nat)^0 - 2* (a / (16777216:Nat)^0):Nat)=e:=by simp
 have z1:=lS (b:=(16777216:Nat)) (v:=a) (i:=n) (by decide) (by omega)
 have hc:=Iy a e he n
 rw [z1] at hc
 unfold SW at lp
 rw [c0,z1,Nat.mul_zero,Nat.sub_zero] at lp
 have z:=kO (c:=aE) (n:=n+1)
 rw [←jB (16777216:Nat) (n+1) (2* a+e)] at z
 have hstep:=iD (b:=(16777216:Nat)) (n:=n+1) (i:=n) (v:=2* a+e) (by omega)
 rw [oG,Nat.mod_eq_of_lt (by omega)] at hstep
 have hsp:bZ ((bW (16777216:Nat) (n+1) n (2* a+e)).map aE) (0+n* 1) [iv ((2* a+e) / (16777216:Nat)^n:Nat)] ((fd (16777216:Nat) (n+1) (2* a+e)).map aE):=l9 (c:=aE) hstep (by rw [ee (by omega)];omega) (by omega)
 have hle:0+n* 1+(iv ((2* a+e) / (16777216:Nat)^n:Nat)).cells.length≤((bW (16777216:Nat) (n+1) n (2* a+e)).map aE).length:=by
  rw [List.length_map,ee (by omega)];show _+1≤_;omega
 have tr:=qj (n:=n+1) (v:=2* a+e) (by omega) hlt
 have fin:cF ((fd (16777216:Nat) (n+1) (2* a+e)).map aE) 0 ((dg (16777216:Nat) (2* a+e)).length* 1) ((dg (16777216:Nat) (2* a+e)).map aE):=o7 _ _ _ (by rw [List.drop_zero,Nat.mul_one];exact tL (by decide) hlt)
 have:=aj ah rO (by rfl) (Xe (n+1) n _ _ e ((dg (16777216:Nat) a).map aE) _ _ _ _) ⟨aR (by omega) (by omega),sC (by omega),decide_eq_false (by omega),z,lp,⟨rfl,by omega⟩,hle,hsp,tr,fin,trivial⟩
 unfold ni
 rw [←hn]
 exact this
def iL (a b:Nat):Int:=if a<b then -1 else if b<a then 1 else 0
def lC (l m:List Nat) (j:Nat):Xt×St:=
 if val (16777216:Nat) (l.take j)<val (16777216:Nat) (m.take j) then (.ret,⟨[(4, .pv (iv (-1)))],[],[],[]⟩)
 else if val (16777216:Nat) (m.take j)<val (16777216:Nat) (l.take j) then (.ret,⟨[(4, .pv (iv 1))],[],[],[]⟩)
 else (.exit 0,⟨[(0, .pv (ni l)),(1, .pv (ni m)),(5, .pv (iv (-1))),(20, .pv (bv false))],[],[],[]⟩)
theorem Aj (k:Nat) (l m:List Nat) (hl:aZ (16777216:Nat) l) (hm:aZ (16777216:Nat) m) (e:l.length=m.length) (hs:l.length<2^40):∀j,j≤l.length→bh (aU MD t0 k 90 0) (j+1) ⟨[(0, .pv (ni l)),(1, .pv (ni m)),(5, .pv (iv ((j:Int) - 1)))],[],[],[]⟩=some (lC l m j)
 |0,_=>by
  simp only [lC,List.take_zero,Nat.lt_irrefl,if_false]
  exact aW (aq (Rr k _ _ _ _ _) ⟨by decide,trivial⟩) (by simp)
 |j+1,hj=>by
  obtain ⟨x,hx⟩:=get_some (l:=l) (i:=j) (by omega)
  obtain ⟨y,hy⟩:=get_some (l:=m) (i:=j) (by omega)
  have v1:=ct (b:=(16777216:Nat)) hx
  have v2:=ct (b:=(16777216:Nat)) hy
  have l1:=cT (eM hl j)
  have l2:=cT (eM hm j)
  have e1:(l.take j).length=j:=by rw [List.length_take];omega
  have e2:(m.take j).length=j:=by rw [List.length_take];omega
  rw [e1] at l1;rw [e2] at l2
  have hi:(((j+1:Nat):Int) - 1)=(j:Int):=by omega
  rw [hi]
  have r1:aK (l.map aE) 1 (j:Int) l.length [aE x]:=jR hx rfl
  have r2:aK (m.map aE) 1 (j:Int) m.length [aE y]:=jR hy rfl
  have h0:decide ((j:Int)≥0)=true:=decide_eq_true (by omega)
  rcases Nat.lt_trichotomy x y with h|h|h
  · have hv:val (16777216:Nat) (l.take (j+1))<val (16777216:Nat) (m.take (j+1)):=by
      rw [v1,v2]
      have:(16777216:Nat)^j* (x+1)≤(16777216:Nat)^j* y:=Nat.mul_le_mul_left _ h
      rw [Nat.mul_add] at this
      omega
    simp only [lC,if_pos hv]
    exact aW (aq (Rt k _ _ x y _ _ _) ⟨h0,r1,r2,bne_iff_ne.2 (by omega),r1,r2,decide_eq_true (by omega),trivial⟩) (by simp)
  · subst h
    have hc:lC l m (j+1)=lC l m j:=by
     simp only [lC,v1,v2,Nat.add_lt_add_iff_right]
    rw [hc]
    exact bz (aq (Rs k _ _ x x _ _ _ ((j:Int) - 1)) ⟨h0,r1,r2,by simp,wrap64 (by omega) (by omega),trivial⟩) (Aj k l m hl hm e hs j (by omega))
  · have hv:val (16777216:Nat) (m.take (j+1))<val (16777216:Nat) (l.take (j+1)):=by
      rw [v1,v2]
      have:(16777216:Nat)^j* (y+1)≤(16777216:Nat)^j* x:=Nat.mul_le_mul_left _ h
      rw [Nat.mul_add] at this
      omega
    have zJ:¬val (16777216:Nat) (l.take (j+1))<val (16777216:Nat) (m.take (j+1)):=by omega
    simp only [lC,if_pos hv,if_neg zJ]
    exact aW (aq (Ru k _ _ x y _ _ _) ⟨h0,r1,r2,bne_iff_ne.2 (by omega),r1,r2,decide_eq_false (by omega),trivial⟩) (by simp)
theorem FN (a b:Nat) (ha:(dg (16777216:Nat) a).length<2^40) (hb:(dg (16777216:Nat) b).length<2^40):az P0 90 [ni (dg (16777216:Nat) a),ni (dg (16777216:Nat) b)] (one (iv (iL a b))):=by
 by_cases e:(dg (16777216:Nat) a).length=(dg (16777216:Nat) b).length
 · have lp:=Aj ((dg (16777216:Nat) a).length+1) _ _ (bU (by decide) a) (bU (by decide) b) e ha (dg (16777216:Nat) a).length (Nat.le_refl _)
   have hne:(((dg (16777216:Nat) a).length:Int) !=((dg (16777216:Nat) b).length:Int))=false:=by simp [e]
   have hw:IntKind.i64.wrap (((dg (16777216:Nat) a).length:Int) - 1)=((dg (16777216:Nat) a).length:Int) - 1:=wrap64 (by omega) (by omega)
   have t1:(dg (16777216:Nat) a).take (dg (16777216:Nat) a).length=dg (16777216:Nat) a:=List.take_length
   have t2:(dg (16777216:Nat) b).take (dg (16777216:Nat) a).length=dg (16777216:Nat) b:=by rw [e];exact List.take_length
   unfold lC at lp
   rw [t1,t2,bP (by decide),bP (by decide)] at lp
   unfold iL
   by_cases v1:a<b
   · rw [if_pos v1] at lp ⊢
     exact aj ah (aI aF) (by rfl) (PI ((dg (16777216:Nat) a).length+1) _ _ _ _ _ (-1)) ⟨hne,hw,lp,trivial⟩
   · rw [if_neg v1] at lp ⊢
     by_cases v2:b<a
     · rw [if_pos v2] at lp ⊢
       exact aj ah (aI aF) (by rfl) (PI ((dg (16777216:Nat) a).length+1) _ _ _ _ _ 1) ⟨hne,hw,lp,trivial⟩
     · rw [if_neg v2] at lp ⊢
       exact aj ah (aI aF) (by rfl) (VV ((dg (16777216:Nat) a).length+1) _ _ _ _ _) ⟨hne,hw,lp,trivial⟩
 · have hne:(((dg (16777216:Nat) a).length:Int) !=((dg (16777216:Nat) b).length:Int))=true:=bne_iff_ne.2 (by omega)
   unfold iL
   by_cases h:(dg (16777216:Nat) a).length<(dg (16777216:Nat) b).length
   · rw [if_pos (Ee (by decide) h)]
     exact aj ah (aI aF) (by rfl) (VT 1 _ _ _ _) ⟨hne,decide_eq_true (by omega),trivial⟩
   · have h2:=Ee (b:=(16777216:Nat)) (by decide) (show (dg (16777216:Nat) b).length<(dg (16777216:Nat) a).length by omega)
     rw [if_neg (by omega),if_pos h2]
     exact aj ah (aI aF) (by rfl) (VU 1 _ _ _ _) ⟨hne,decide_eq_false (by omega),trivial⟩
theorem F7:aH MD.P t21:=aI (ak (ax fun x _=>jS x.1 x.2) aF)
def Si (g:Bool) (s:ByteArray) (i:Nat) (e:List (Nat×AV)):St:=⟨(1, .bp 1 0)::(4, .pv (.lit (.int .u64 (val 256 ((aS s).drop (s.size - i)):Nat))))::(5, .pv (iv i))::e,[(1,[bv g,sv s])],[],[]⟩
theorem Hu (k i:Nat) (g:Bool) (s:ByteArray) (hi:i<s.size) (hs:s.size≤7):aU MD t21 k 138 0 (Si g s i [])=some (.normal,Si g s (i+1) []):=by
 obtain ⟨b,hb,cc⟩:=lO (s:=s) (i:=s.size - 1 - i) (by omega)
 have nI:b<256:=dz s b (List.mem_of_getElem? hb)
 rw [show s.size - 1 - (s.size - 1 - i)=i by omega] at cc
 have hd:=tH (b:=256) hb
 rw [show s.size - 1 - i+1=s.size - i by omega,show s.size - 1 - i=s.size - (i+1) by omega] at hd
 have hlt:=cT (jA (dz s) (s.size - (i+1)))
 rw [List.length_drop,bL] at hlt
 have h7:256^(s.size - (s.size - (i+1)))≤256^7:=Nat.pow_le_pow_right (by decide) (by omega)
 have zG:eu s (i:Int) (b:Int):=by
  show ja s _=_
  unfold ja
  rw [if_pos (by omega),Int.toNat_natCast]
  cases h:s[i]? with
  |none=>rw [h] at cc;simp at cc
  |some c=>rw [h] at cc;simp at cc;simp [cc]
 obtain ⟨u,hu⟩:∃u,u=val 256 ((aS s).drop (s.size - i)):=⟨_,rfl⟩
 obtain ⟨u2,jc⟩:∃u2,u2=val 256 ((aS s).drop (s.size - (i+1))):=⟨_,rfl⟩
 rw [←hu,←jc] at hd
 rw [←jc] at hlt
 unfold Si
 rw [←hu,←jc]
 have hp:(2:Int)^min (Int.toNat 8) IntKind.u64.bits=256:=by decide
 exact aq (U3 k i b u ((256* u:Nat):Int) (u2:Nat) g s) ⟨decide_eq_true (by omega),by rw [hp];exact bq (by omega) (by omega),rfl,zG,bq rfl (by omega),bq (by omega) (by omega),aR (by omega) (by omega),trivial⟩
theorem FL (z:Int) (h:(af z.natAbs).size≤7):az P0 138 [.ag (zc z)] (one (.aQ [iv z,bv true])):=by
 obtain ⟨s,hs⟩:∃s,s=af z.natAbs:=⟨_,rfl⟩
 rw [←hs] at h
 have hval:val 256 ((aS s).drop (s.size - s.size))=z.natAbs:=by rw [Nat.sub_self,List.drop_zero,hs,cU,bP (by decide)]
 have hlt:z.natAbs<256^7:=by
  have h1:=cz (b:=256) (n:=z.natAbs) (by decide)
  have h2:(dg 256 z.natAbs).length≤7:=by rw [←lP,←hs];exact h
  exact Nat.lt_of_lt_of_le h1 (Nat.pow_le_pow_right (by decide) h2)
 have lp:=fun g=>bK (f:=aU MD t21 8 138 0) (S:=fun i=>Si g s i []) (n:=s.size) (fun i hi=>Hu 8 i g s hi h) (aq (U4 8 s.size (val 256 ((aS s).drop (s.size - s.size)):Nat) g s) ⟨decide_eq_false (by omega),trivial⟩) (by simp) 8 (by omega)
 have v0:val 256 ((aS s).drop (s.size - 0))=0:=by
  rw [Nat.sub_zero,List.drop_of_length_le (by rw [bL];omega)];rfl
 have vt:eU [iz (decide (z<0)) s]=some (one (bv true)):=by rw [cy,hs,lY]
 unfold Si at lp
 rw [hval,v0] at lp
 have e:(.ag (zc z):PV)=iz (decide (z<0)) s:=by rw [hs];rfl
 rw [e]
 by_cases hz:z<0
 · rw [decide_eq_true hz] at vt ⊢
   exact aj ah F7 (by rfl) (U1 8 (z.natAbs:Nat) (-z - 1) (-z - 1) (z+1) z s) ⟨vt,decide_eq_false (by omega),lp true,decide_eq_true (by omega),by rw [wrap_u64];omega,wrap64 (by omega) (by omega),by rw [wrap64]<;>omega,by rw [wrap64]<;>omega,trivial⟩
 · rw [decide_eq_false hz] at vt ⊢
   exact aj ah F7 (by rfl) (U2 8 (z.natAbs:Nat) z s) ⟨vt,decide_eq_false (by omega),lp false,decide_eq_true (by omega),by rw [wrap64]<;>omega,trivial⟩
theorem E0 {z:Int} (h:(af z.natAbs).size≤7):EZ [.ag (zc z)]=some (one (.aQ [iv z,bv true])):=
 aO (enc:=fun z:Int=>[.ag (zc z)]) (fun a b e=>by
  simp only [List.cons.injEq,and_true,PV.ag.injEq] at e
  rw [eE e]) h
theorem FQ (z:Int) (h:(af z.natAbs).size≤7):az P0 85 [.ag (zc z)] (one (.aQ [iv z,bv true])):=
 aj ah (aI (ak (ax fun z h=>FL z h) aF)) (by rfl) (RT 1 (decide (z<0)) (af z.natAbs) z) ⟨decide_eq_false (by omega),E0 h,trivial⟩
end Go.Proofs.YtibbgjafjhcemaaGreatDoor.Cul
namespace Go.Proofs.YtibbgjafjhcemaaGreatDoor.Cul
theorem pM {b:Nat} (hb:2≤b) {w:Nat} (hw:0<w):∀z,dg b (b^z* w)=List.replicate z 0++dg b w
 |0=>by simp
 |z+1=>by
  have h:0<b^z* w:=Nat.mul_pos (Nat.pow_pos (by omega)) hw
  have e:b^(z+1)* w=0+b* (b^z* w):=by rw [Nat.pow_succ,Nat.mul_comm (b^z) b,Nat.mul_assoc];omega
  rw [e,we hb (by omega) _ (.inr h),pM hb hw z,List.replicate_succ];rfl
def oz (v:Nat):Nat:=tz v / 24
def ok' (v:Nat):Nat:=tz v%24
def ow (v:Nat):Nat:=2^ok' v* od v
theorem nP (v:Nat):ok' v<24:=Nat.mod_lt _ (by decide)
theorem rE {v:Nat} (h:0<v):0<ow v:=Nat.mul_pos (Nat.pow_pos (by decide)) (M5 h)
theorem Dt {v:Nat} (h:0<v):(16777216:Nat)^oz v* ow v=v:=by
 conv=>rhs;rw [←vh h]
 unfold ow
 rw [←Nat.mul_assoc]
 congr 1
 rw [show (16777216:Nat)=2^24 by decide,←Nat.pow_mul,←Nat.pow_add]
 congr 1
 unfold oz ok'
 omega
theorem By {w j:Nat} (h:j<24):(w%(16777216:Nat)) / 2^j%2=w / 2^j%2:=by
 rw [show (16777216:Nat)=2^j* 2^(24 - j) by rw [←Nat.pow_add,show j+(24 - j)=24 by omega],Nat.mod_mul_right_div_self]
 refine Nat.mod_mod_of_dvd _ ?_
 exact ⟨2^(24 - j - 1),by rw [←Nat.pow_succ'];congr 1;omega⟩
theorem Nb {v j:Nat} (h:j<ok' v):(ow v%(16777216:Nat)) / 2^j%2=0:=by
 have:=nP v
 rw [By (by omega)]
 unfold ow
 obtain ⟨d,hd⟩:∃d,ok' v=j+(d+1):=⟨ok' v - j - 1,by omega⟩
 rw [hd,Nat.pow_add,Nat.mul_assoc,Nat.mul_div_cancel_left _ (Nat.pow_pos (by decide)),Nat.pow_succ']
 rw [Nat.mul_assoc];simp
theorem B4 {v:Nat} (h:0<v):(ow v%(16777216:Nat)) / 2^ok' v%2=1:=by
 rw [By (nP v)]
 unfold ow
 rw [Nat.mul_div_cancel_left _ (Nat.pow_pos (by decide))]
 exact jn h
theorem Nc {v:Nat}:ow v%(16777216:Nat)%2^ok' v=0:=by
 have:=nP v
 rw [Nat.mod_mod_of_dvd _ (by rw [show (16777216:Nat)=2^24 by decide];exact Nat.pow_dvd_pow 2 (by omega))]
 unfold ow
 simp
def gp (v:Nat):List Nat:=List.replicate (oz v) 0++shr (ok' v) (dg (16777216:Nat) (ow v))
theorem Ag {v:Nat} (h:0<v):val (16777216:Nat) (shr (ok' v) (dg (16777216:Nat) (ow v)))=od v:=by
 have hw:=rE h
 have e:=dw (b:=(16777216:Nat)) (by decide) hw
 have h1:=Cm (k:=ok' v) (by have:=nP v;omega) (ow v%(16777216:Nat)) (dg (16777216:Nat) (ow v / (16777216:Nat)))
 rw [←e] at h1
 rw [show (2:Nat)^24=(16777216:Nat) by decide,bP (by decide),Nc,Nat.add_zero] at h1
 exact Nat.eq_of_mul_eq_mul_left (Nat.pow_pos (by decide)) h1
theorem Af (v:Nat):aZ (16777216:Nat) (shr (ok' v) (dg (16777216:Nat) (ow v))):=by
 have:=Cj (k:=ok' v) (by have:=nP v;omega) (l:=dg (16777216:Nat) (ow v)) (by rw [show (2:Nat)^24=(16777216:Nat) by decide];exact bU (by decide) _)
 rwa [show (2:Nat)^24=(16777216:Nat) by decide] at this
def cI (k:Nat) (l:List Nat) (i:Nat):List Nat:=(shr k l).take i++l.drop i
theorem FY (k:Nat) (l:List Nat) (i:Nat):(cI k l i).length=l.length:=by
 simp [cI,gx];omega
theorem DK (k:Nat) (l:List Nat):cI k l 0=l:=by simp [cI]
theorem FW (k:Nat) (l:List Nat):cI k l l.length=shr k l:=by
 simp [cI]
 exact List.take_of_length_le (by rw [gx];omega)
theorem FX {k:Nat} {l:List Nat} {i x:Nat} (h:l[i]? =some x):(cI k l i)[i]? =some x:=by
 have hi:i<l.length:=by
  rcases Nat.lt_or_ge i l.length with h'|h'
  · exact h'
  · simp [List.getElem?_eq_none h'] at h
 unfold cI
 rw [List.getElem?_append_right (by rw [List.length_take,gx];omega),List.length_take,gx,List.getElem?_drop]
 rw [show i+(i - min i l.length)=i by omega];exact h
theorem DI {k:Nat} {l:List Nat} {i y:Nat} (h:l[i+1]? =some y) (z:Nat):((cI k l i).set i z)[i+1]? =some y:=by
 have hi:i+1<l.length:=by
  rcases Nat.lt_or_ge (i+1) l.length with h'|h'
  · exact h'
  · simp [List.getElem?_eq_none h'] at h
 rw [List.getElem?_set_ne (by omega)]
 unfold cI
 rw [List.getElem?_append_right (by rw [List.length_take,gx];omega),List.length_take,gx,List.getElem?_drop]
 rw [show i+(i+1 - min i l.length)=i+1 by omega];exact h
theorem DJ {k:Nat} {l:List Nat} {i x:Nat} (h:l[i]? =some x):(cI k l i).set i (x / 2^k+(match l[i+1]? with|some y=>y* 2^(24 - k)%2^24|none=>0))=cI k l (i+1):=by
 have hi:i<l.length:=by
  rcases Nat.lt_or_ge i l.length with h'|h'
  · exact h'
  · simp [List.getElem?_eq_none h'] at h
 have hg:=Ck (k:=k) h
 have hl:((shr k l).take i).length=i:=by rw [List.length_take,gx];omega
 have hs:(shr k l).take (i+1)=(shr k l).take i++[x / 2^k+(match l[i+1]? with|some y=>y* 2^(24 - k)%2^24|none=>0)]:=by
  rw [List.take_add_one,hg];rfl
 unfold cI
 rw [List.set_append_right _ _ (by omega),hl,Nat.sub_self,List.drop_eq_getElem_cons hi,List.set_cons_zero,hs,List.append_assoc];rfl
end Go.Proofs.YtibbgjafjhcemaaGreatDoor.Cul
namespace Go.Proofs.YtibbgjafjhcemaaGreatDoor.Cul
open Go Go.RowKit
theorem Ri (k o m x:Nat) (c:Int) (cs:List PV):ay MD t20 k 89 0 ⟨[(0, .bs gk o 1 m),(4, .pv (iv c))],[(gk,cs)],[],[]⟩ [.j 8 0, .e 9 (iv x), .c false]=
 some ((Xt.exit 0,St.mk [(0,AV.bs 1000000 o 1 m),(4,AV.pv (PV.lit (Value.int IntKind.i64 c))),(10,AV.pv (PV.lit (Value.bool false)))] [(1000000,cs)] [] []),[],[aJ (0:Int) m 0,Ld MD.P 3 cs o (PV.lit (Value.int IntKind.i64 (↑x:Int))),((↑x:Int)==(0:Int))=false]):=by kernel_rfl
theorem Rj (k o m x:Nat) (c d:Int) (cs:List PV):ay MD t20 k 89 0 ⟨[(0, .bs gk o 1 m),(4, .pv (iv c))],[(gk,cs)],[],[]⟩ [.j 8 0, .e 9 (iv x), .c true, .o 12 (o+1) (m - 1), .i 14 d]=
 some ((Xt.normal,St.mk [(0,AV.bs 1000000 (o+(1:Nat)) 1 (m - (1:Nat))),(4,AV.pv (PV.lit (Value.int IntKind.i64 d)))] [(1000000,cs)] [] []),[],[aJ (0:Int) m 0,Ld MD.P 3 cs o (PV.lit (Value.int IntKind.i64 (↑x:Int))),((↑x:Int)==(0:Int))=true,(0:Int)≤(1:Int)∧(1:Int)≤(↑m:Int)∧(↑m:Int)≤(↑m:Int),o+Int.toNat (1:Int)* (1:Nat)=o+(1:Nat),(↑m:Int).toNat - Int.toNat (1:Int)=m - (1:Nat),IntKind.i64.wrap (c+(24:Int))=d]):=by kernel_rfl
theorem Rk (k o m x j y z:Nat) (c:Int) (cs:List PV):ay MD t20 k 89 1 ⟨[(0, .bs gk o 1 m),(4, .pv (iv c)),(5, .pv (iv j))],[(gk,cs)],[],[]⟩ [.j 16 0, .e 17 (iv x), .i 19 y, .i 20 z, .c false]=
 some ((Xt.exit 2,St.mk [(0,AV.bs 1000000 o 1 m),(4,AV.pv (PV.lit (Value.int IntKind.i64 c))),(5,AV.pv (PV.lit (Value.int IntKind.i64 (↑j:Int)))),(21,AV.pv (PV.lit (Value.bool false)))] [(1000000,cs)] [] []),[],[aJ (0:Int) m 0,Ld MD.P 3 cs o (PV.lit (Value.int IntKind.i64 (↑x:Int))),(↑x:Int).fdiv ((2:Int)^min (↑j:Int).toNat IntKind.i64.bits)=(↑y:Int),decide ((↑j:Int)<(0:Int))=false,IntKind.i64.wrap (↑(BitVec.ofInt IntKind.i64.bits (↑y:Int)&&&BitVec.ofInt IntKind.i64.bits (1:Int)).toNat:Int)=(↑z:Int),((↑z:Int)==(0:Int))=false]):=by kernel_rfl
theorem Rl (k o m x j y z:Nat) (c:Int) (cs:List PV):ay MD t20 k 89 1 ⟨[(0, .bs gk o 1 m),(4, .pv (iv c)),(5, .pv (iv j))],[(gk,cs)],[],[]⟩ [.j 16 0, .e 17 (iv x), .i 19 y, .i 20 z, .c true, .i 23 (j+1:Nat)]=
 some ((Xt.normal,St.mk [(0,AV.bs 1000000 o 1 m),(4,AV.pv (PV.lit (Value.int IntKind.i64 c))),(5,AV.pv (PV.lit (Value.int IntKind.i64 (↑(j+(1:Nat)):Int))))] [(1000000,cs)] [] []),[],[aJ (0:Int) m 0,Ld MD.P 3 cs o (PV.lit (Value.int IntKind.i64 (↑x:Int))),(↑x:Int).fdiv ((2:Int)^min (↑j:Int).toNat IntKind.i64.bits)=(↑y:Int),decide ((↑j:Int)<(0:Int))=false,IntKind.i64.wrap (↑(BitVec.ofInt IntKind.i64.bits (↑y:Int)&&&BitVec.ofInt IntKind.i64.bits (1:Int)).toNat:Int)=(↑z:Int),((↑z:Int)==(0:Int))=true,IntKind.i64.wrap ((↑j:Int)+(1:Int))=(↑(j+(1:Nat)):Int)]):=by kernel_rfl
theorem Rm (k o m i:Nat) (c q:Int) (cs:List PV):ay MD t20 k 89 2 ⟨[(0, .bs gk o 1 m),(4, .pv (iv c)),(5, .pv (iv q)),(6, .pv (iv i))],[(gk,cs)],[],[]⟩ [.c false]=
 some ((Xt.exit 4,St.mk [(0,AV.bs 1000000 o 1 m),(4,AV.pv (PV.lit (Value.int IntKind.i64 c))),(5,AV.pv (PV.lit (Value.int IntKind.i64 q))),(6,AV.pv (PV.lit (Value.int IntKind.i64 (↑i:Int)))),(27,AV.pv (PV.lit (Value.bool false)))] [(1000000,cs)] [] []),[],[decide ((↑i:Int)<(↑m:Int))=false]):=by kernel_rfl
theorem Rn (k o m i x y:Nat) (c q:Int) (cs cs':List PV):ay MD t20 k 89 2 ⟨[(0, .bs gk o 1 m),(4, .pv (iv c)),(5, .pv (iv q)),(6, .pv (iv i))],[(gk,cs)],[],[]⟩ [.c true, .j 32 i, .e 33 (iv x), .i 35 y, .j 36 i, .s cs', .i 38 (i+1:Nat), .c false, .i 29 (i+1:Nat)]=
 some ((Xt.normal,St.mk [(0,AV.bs 1000000 o 1 m),(4,AV.pv (PV.lit (Value.int IntKind.i64 c))),(5,AV.pv (PV.lit (Value.int IntKind.i64 q))),(6,AV.pv (PV.lit (Value.int IntKind.i64 (↑(i+(1:Nat)):Int))))] [(1000000,cs')] [] []),[],[decide ((↑i:Int)<(↑m:Int))=true,aJ (↑i:Int) m i,Ld MD.P 3 cs (o+i* (1:Nat)) (PV.lit (Value.int IntKind.i64 (↑x:Int))),(↑x:Int).fdiv ((2:Int)^min q.toNat IntKind.i64.bits)=(↑y:Int),decide (q<(0:Int))=false,aJ (↑i:Int) m i,o+i* (1:Nat)+(PV.lit (Value.int IntKind.i64 (↑y:Int))).cells.length≤cs.length,bZ cs (o+i* (1:Nat)) [PV.lit (Value.int IntKind.i64 (↑y:Int))] cs',IntKind.i64.wrap ((↑i:Int)+(1:Int))=(↑(i+(1:Nat)):Int),decide ((↑(i+(1:Nat)):Int)<(↑m:Int))=false,IntKind.i64.wrap ((↑i:Int)+(1:Int))=(↑(i+(1:Nat)):Int)]):=by kernel_rfl
theorem Ro (k o m i x y u Ju s1 s2 s3:Nat) (c q:Int) (cs cs' dG:List PV):ay MD t20 k 89 2 ⟨[(0, .bs gk o 1 m),(4, .pv (iv c)),(5, .pv (iv q)),(6, .pv (iv i))],[(gk,cs)],[],[]⟩ [.c true, .j 32 i, .e 33 (iv x), .i 35 y, .j 36 i, .s cs', .i 38 (i+1:Nat), .c true, .j 44 i, .e 45 (iv y), .i 48 (i+1:Nat), .j 49 (i+1), .e 50 (iv u), .i 52 Ju, .i 53 s1, .i 54 s2, .i 55 s3, .j 56 i, .s dG, .i 29 (i+1:Nat)]=
 some ((Xt.normal,St.mk [(0,AV.bs 1000000 o 1 m),(4,AV.pv (PV.lit (Value.int IntKind.i64 c))),(5,AV.pv (PV.lit (Value.int IntKind.i64 q))),(6,AV.pv (PV.lit (Value.int IntKind.i64 (↑(i+(1:Nat)):Int))))] [(1000000,dG)] [] []),[],[decide ((↑i:Int)<(↑m:Int))=true,aJ (↑i:Int) m i,Ld MD.P 3 cs (o+i* (1:Nat)) (PV.lit (Value.int IntKind.i64 (↑x:Int))),(↑x:Int).fdiv ((2:Int)^min q.toNat IntKind.i64.bits)=(↑y:Int),decide (q<(0:Int))=false,aJ (↑i:Int) m i,o+i* (1:Nat)+(PV.lit (Value.int IntKind.i64 (↑y:Int))).cells.length≤cs.length,bZ cs (o+i* (1:Nat)) [PV.lit (Value.int IntKind.i64 (↑y:Int))] cs',IntKind.i64.wrap ((↑i:Int)+(1:Int))=(↑(i+(1:Nat)):Int),decide ((↑(i+(1:Nat)):Int)<(↑m:Int))=true,aJ (↑i:Int) m i,Ld MD.P 3 cs' (o+i* (1:Nat)) (PV.lit (Value.int IntKind.i64 (↑y:Int))),IntKind.i64.wrap ((↑i:Int)+(1:Int))=(↑(i+(1:Nat)):Int),aJ (↑(i+(1:Nat)):Int) m (i+(1:Nat)),Ld MD.P 3 cs' (o+(i+(1:Nat))* (1:Nat)) (PV.lit (Value.int IntKind.i64 (↑u:Int))),IntKind.i64.wrap ((24:Int) - q)=(↑Ju:Int),IntKind.i64.wrap ((↑u:Int)* (2:Int)^min (↑Ju:Int).toNat IntKind.i64.bits)=(↑s1:Int),decide ((↑Ju:Int)<(0:Int))=false,(↑s1:Int).tmod (16777216:Int)=(↑s2:Int),false=false,IntKind.i64.wrap ((↑y:Int)+(↑s2:Int))=(↑s3:Int),aJ (↑i:Int) m i,o+i* (1:Nat)+(PV.lit (Value.int IntKind.i64 (↑s3:Int))).cells.length≤cs'.length,bZ cs' (o+i* (1:Nat)) [PV.lit (Value.int IntKind.i64 (↑s3:Int))] dG,IntKind.i64.wrap ((↑i:Int)+(1:Int))=(↑(i+(1:Nat)):Int)]):=by kernel_rfl
theorem Rq (k o m n r:Nat) (c q f:Int) (cs cs':List PV):l8 MD t20 k 89 [.g cs 0 1 n] [.l (.exit 0) ⟨[(0, .bs gk o 1 m),(4, .pv (iv c)),(10, .pv (bv false))],[(gk,cs)],[],[]⟩, .l (.exit 2) ⟨[(0, .bs gk o 1 m),(4, .pv (iv c)),(5, .pv (iv q)),(21, .pv (bv false))],[(gk,cs)],[],[]⟩, .l (.exit 4) ⟨[(0, .bs gk o 1 m),(4, .pv (iv c)),(5, .pv (iv q)),(6, .pv (iv m)),(27, .pv (bv false))],[(gk,cs')],[],[]⟩, .m (.gs o r) cs', .i 61 f]=
 some ((MR.gt o r [PV.lit (Value.int IntKind.i64 f)],cs'),[cs'.all cH=true,cs'.length=cs.length,aX MD t20 k (89:Nat) (0:Nat) (St.mk [(0,AV.bs 1000000 0 1 n),(4,AV.pv (PV.lit (Value.int IntKind.i64 (0:Int))))] [(1000000,cs)] [] []) (Xt.exit 0) (St.mk [(0,AV.bs 1000000 o 1 m),(4,AV.pv (PV.lit (Value.int IntKind.i64 c))),(10,AV.pv (PV.lit (Value.bool false)))] [(1000000,cs)] [] []),aX MD t20 k (89:Nat) (1:Nat) (St.mk [(0,AV.bs 1000000 o 1 m),(4,AV.pv (PV.lit (Value.int IntKind.i64 c))),(5,AV.pv (PV.lit (Value.int IntKind.i64 (0:Int))))] [(1000000,cs)] [] []) (Xt.exit 2) (St.mk [(0,AV.bs 1000000 o 1 m),(4,AV.pv (PV.lit (Value.int IntKind.i64 c))),(5,AV.pv (PV.lit (Value.int IntKind.i64 q))),(21,AV.pv (PV.lit (Value.bool false)))] [(1000000,cs)] [] []),aX MD t20 k (89:Nat) (2:Nat) (St.mk [(0,AV.bs 1000000 o 1 m),(4,AV.pv (PV.lit (Value.int IntKind.i64 c))),(5,AV.pv (PV.lit (Value.int IntKind.i64 q))),(6,AV.pv (PV.lit (Value.int IntKind.i64 (0:Int))))] [(1000000,cs)] [] []) (Xt.exit 4) (St.mk [(0,AV.bs 1000000 o 1 m),(4,AV.pv (PV.lit (Value.int IntKind.i64 c))),(5,AV.pv (PV.lit (Value.int IntKind.i64 q))),(6,AV.pv (PV.lit (Value.int IntKind.i64 (↑m:Int)))),(27,AV.pv (PV.lit (Value.bool false)))] [(1000000,cs')] [] []),ey t20 140 [MA.g cs' o 1 m] (MR.gs o r) cs',IntKind.i64.wrap (c+q)=f]):=by kernel_rfl
theorem Lb (y:Nat) (h:y<2^63):IntKind.i64.wrap (((BitVec.ofInt IntKind.i64.bits (y:Int)&&&BitVec.ofInt IntKind.i64.bits 1).toNat:Nat):Int)=((y%2:Nat):Int):=by
 have e:(BitVec.ofInt IntKind.i64.bits (y:Int)&&&BitVec.ofInt IntKind.i64.bits 1).toNat=y%2:=by
  rw [BitVec.toNat_and,show (1:Int)=((1:Nat):Int) from rfl,BitVec.ofInt_natCast,BitVec.ofInt_natCast,BitVec.toNat_ofNat,BitVec.toNat_ofNat]
  show y%2^64&&&1%2^64=y%2
  rw [Nat.mod_eq_of_lt (by omega),show 1%2^64=1 by decide,Nat.and_one_is_mod]
 rw [e]
 exact aR rfl (by omega)
theorem RZ {x r:Nat} {k:Int} (hk:k=(r:Int)) (hr:r<64) (hb:x* 2^r<2^63):IntKind.i64.wrap ((x:Int)* 2^min k.toNat IntKind.i64.bits)=((x* 2^r:Nat):Int):=by
 subst hk
 have e:min ((r:Int).toNat) IntKind.i64.bits=r:=by rw [Int.toNat_natCast];show min r 64=r;omega
 rw [e]
 exact aR (by norm_cast) hb
theorem B5 {v:Nat} (h:0<v):∃l,dg (16777216:Nat) (ow v)=(ow v%(16777216:Nat))::l∧0<ow v%(16777216:Nat):=by
 refine ⟨_,dw (by decide) (rE h), ?_⟩
 rcases Nat.eq_zero_or_pos (ow v%(16777216:Nat)) with h0|h0
 · have:=B4 h
   rw [show (16777216:Nat)=(16777216:Nat) from rfl,h0] at this;simp at this
 · exact h0
theorem Ae (k v:Nat) (hv:0<v) (hb:(dg (16777216:Nat) v).length<2^40):∀j o,o+j=oz v→bh (aU MD t20 k 89 0) (j+1) ⟨[(0, .bs gk o 1 (j+(dg (16777216:Nat) (ow v)).length)),(4, .pv (iv (24* o:Nat)))],[(gk,(List.replicate (oz v) 0++dg (16777216:Nat) (ow v)).map aE)],[],[]⟩=some (.exit 0,⟨[(0, .bs gk (oz v) 1 (dg (16777216:Nat) (ow v)).length),(4, .pv (iv (24* oz v:Nat))),(10, .pv (bv false))],[(gk,(List.replicate (oz v) 0++dg (16777216:Nat) (ow v)).map aE)],[],[]⟩)
 |0,o,h=>by
  have ho:o=oz v:=by omega
  subst ho
  rw [Nat.zero_add,Nat.zero_add]
  obtain ⟨l,e1,hx⟩:=B5 hv
  have el:(dg (16777216:Nat) (ow v)).length=l.length+1:=by rw [e1];rfl
  have hg:(List.replicate (oz v) 0++dg (16777216:Nat) (ow v))[oz v]? =some (ow v%(16777216:Nat)):=by
   rw [e1,List.getElem?_append_right (by simp)];simp
  exact aW (aq (Ri k _ _ _ _ _) ⟨⟨rfl,by omega⟩,pS hg rfl,beq_false_of_ne (by omega),trivial⟩) (by simp)
 |j+1,o,h=>by
  have hg:(List.replicate (oz v) 0++dg (16777216:Nat) (ow v))[o]? =some 0:=by
   rw [List.getElem?_append_left (by simp;omega),List.getElem?_replicate,if_pos (by omega)]
  have ho:oz v<2^40:=by
   have:=pM (b:=(16777216:Nat)) (by decide) (rE hv) (oz v)
   rw [Dt hv] at this
   have:=congrArg List.length this
   rw [List.length_append,List.length_replicate] at this
   omega
  have key:=Rj k o (j+1+(dg (16777216:Nat) (ow v)).length) 0 (24* o:Nat) (24* (o+1):Nat) ((List.replicate (oz v) 0++dg (16777216:Nat) (ow v)).map aE)
  rw [show j+1+(dg (16777216:Nat) (ow v)).length - 1=j+(dg (16777216:Nat) (ow v)).length by omega] at key
  exact bz (aq key ⟨⟨rfl,by omega⟩,pS hg rfl,rfl,⟨by omega,by omega,by omega⟩,rfl,by show _ - 1=_;omega,aR (by omega) (by omega),trivial⟩) (Ae k v hv hb j (o+1) (by omega))
theorem HF (k v:Nat) (c:Int) (hv:0<v):∀j i,i+j=ok' v→bh (aU MD t20 k 89 1) (j+1) ⟨[(0, .bs gk (oz v) 1 (dg (16777216:Nat) (ow v)).length),(4, .pv (iv c)),(5, .pv (iv i))],[(gk,(List.replicate (oz v) 0++dg (16777216:Nat) (ow v)).map aE)],[],[]⟩=some (.exit 2,⟨[(0, .bs gk (oz v) 1 (dg (16777216:Nat) (ow v)).length),(4, .pv (iv c)),(5, .pv (iv (ok' v))),(21, .pv (bv false))],[(gk,(List.replicate (oz v) 0++dg (16777216:Nat) (ow v)).map aE)],[],[]⟩):=by
 have hok:=nP v
 obtain ⟨l,e1,hx⟩:=B5 hv
 have el:(dg (16777216:Nat) (ow v)).length=l.length+1:=by rw [e1];rfl
 have hg:(List.replicate (oz v) 0++dg (16777216:Nat) (ow v))[oz v]? =some (ow v%(16777216:Nat)):=by
  rw [e1,List.getElem?_append_right (by simp)];simp
 have hlt:ow v%(16777216:Nat)<(16777216:Nat):=Nat.mod_lt _ (by decide)
 intro j
 induction j with
 |zero=>
  intro i h
  have hi:i=ok' v:=by omega
  subst hi
  have hb:=B4 hv
  have hle:=Nat.div_le_self (ow v%(16777216:Nat)) (2^ok' v)
  exact aW (aq (Rk k _ _ (ow v%(16777216:Nat)) (ok' v) ((ow v%(16777216:Nat)) / 2^ok' v) ((ow v%(16777216:Nat)) / 2^ok' v%2) c _) ⟨⟨rfl,by omega⟩,pS hg rfl,AM rfl (by omega),decide_eq_false (by omega),Lb _ (by omega),beq_false_of_ne (by rw [show (16777216:Nat)=(16777216:Nat) from rfl,hb];decide),trivial⟩) (by simp)
 |succ j ih=>
  intro i h
  have hb:=Nb (v:=v) (j:=i) (by omega)
  have hle:=Nat.div_le_self (ow v%(16777216:Nat)) (2^i)
  exact bz (aq (Rl k _ _ (ow v%(16777216:Nat)) i ((ow v%(16777216:Nat)) / 2^i) ((ow v%(16777216:Nat)) / 2^i%2) c _) ⟨⟨rfl,by omega⟩,pS hg rfl,AM rfl (by omega),decide_eq_false (by omega),Lb _ (by omega),by rw [show (16777216:Nat)=(16777216:Nat) from rfl,hb];rfl,aR (by omega) (by omega),trivial⟩) (ih (i+1) (by omega))
theorem Cg {l m:List Nat} {i y:Nat}:(l++m).set (l.length+i) y=l++m.set i y:=by
 rw [List.set_append_right _ _ (by omega),Nat.add_sub_cancel_left]
theorem wC {l m:List Nat} {i x:Nat} (h:m[i]? =some x):(l++m)[l.length+i]? =some x:=by
 rw [List.getElem?_append_right (by omega),Nat.add_sub_cancel_left];exact h
def SC (v i:Nat) (c:Int) (e:List (Nat×AV)):St:=⟨(0, .bs gk (oz v) 1 (dg (16777216:Nat) (ow v)).length)::(4, .pv (iv c))::(5, .pv (iv (ok' v)))::(6, .pv (iv i))::e,[(gk,(List.replicate (oz v) 0++cI (ok' v) (dg (16777216:Nat) (ow v)) i).map aE)],[],[]⟩
theorem Fo (k v i:Nat) (c:Int) (hi:i<(dg (16777216:Nat) (ow v)).length) (hb:(dg (16777216:Nat) (ow v)).length<2^40):aU MD t20 k 89 2 (SC v i c [])=some (.normal,SC v (i+1) c []):=by
 have hok:=nP v
 obtain ⟨x,hx⟩:=get_some hi
 have hxl:=cL (bU (b:=(16777216:Nat)) (by decide) (ow v)) hx
 have hst:=DJ (k:=ok' v) hx
 have Um:=FX (k:=ok' v) hx
 have hz:(List.replicate (oz v) 0).length=oz v:=List.length_replicate
 have hle:=Nat.div_le_self x (2^ok' v)
 generalize hW:dg (16777216:Nat) (ow v)=W at*
 have ll:=FY (ok' v) W i
 have hg:(List.replicate (oz v) 0++cI (ok' v) W i)[oz v+i]? =some x:=by
  have:=wC (l:=List.replicate (oz v) 0) Um;rwa [hz] at this
 have uO:=pS hg (o:=oz v+i* 1) (by omega)
 have L7:∀y,oz v+i* 1+(aE y).cells.length≤((List.replicate (oz v) 0++cI (ok' v) W i).map aE).length:=by
  intro y
  rw [List.length_map,List.length_append,hz,ll];show _+1≤_;omega
 have hsp:∀y,bZ ((List.replicate (oz v) 0++cI (ok' v) W i).map aE) (oz v+i* 1) [aE y] ((List.replicate (oz v) 0++(cI (ok' v) W i).set i y).map aE):=by
  intro y
  refine l9 (i:=oz v+i) ?_ (by rw [List.length_append,hz,ll];omega) (by omega)
  have:=Cg (l:=List.replicate (oz v) 0) (m:=cI (ok' v) W i) (i:=i) (y:=y)
  rwa [hz] at this
 unfold SC
 rw [hW]
 cases hn:W[i+1]? with
 |none=>
  rw [hn] at hst
  simp only [Nat.add_zero] at hst
  have X4:W.length≤i+1:=List.getElem?_eq_none_iff.1 hn
  have h1:=hsp (x / 2^ok' v)
  rw [hst] at h1
  have key:=Rn k (oz v) W.length i x (x / 2^ok' v) c (ok' v) ((List.replicate (oz v) 0++cI (ok' v) W i).map aE) ((List.replicate (oz v) 0++cI (ok' v) W (i+1)).map aE)
  exact aq key ⟨decide_eq_true (by omega),⟨rfl,hi⟩,uO,AM rfl (by omega),decide_eq_false (by omega),⟨rfl,hi⟩,L7 _,h1,aR (by omega) (by omega),decide_eq_false (by omega),aR (by omega) (by omega),trivial⟩
 |some u=>
  rw [hn] at hst
  simp only at hst
  have Yw:=gi hn
  have UU:u<(16777216:Nat):=cL (hW ▸bU (b:=(16777216:Nat)) (by decide) (ow v)) hn
  have Un:=DI (k:=ok' v) hn (x / 2^ok' v)
  have l2:((cI (ok' v) W i).set i (x / 2^ok' v)).length=W.length:=by rw [List.length_set,ll]
  have Up:(List.replicate (oz v) 0++(cI (ok' v) W i).set i (x / 2^ok' v))[oz v+(i+1)]? =some u:=by
   have:=wC (l:=List.replicate (oz v) 0) Un;rwa [hz] at this
  have L5:(List.replicate (oz v) 0++(cI (ok' v) W i).set i (x / 2^ok' v))[oz v+i]? =some (x / 2^ok' v):=by
   have:=wC (l:=List.replicate (oz v) 0) (m:=(cI (ok' v) W i).set i (x / 2^ok' v)) (i:=i) (x:=x / 2^ok' v) (by rw [List.getElem?_set_self (by omega)])
   rwa [hz] at this
  have hp:u* 2^(24 - ok' v)<2^48:=by
   have h1:2^(24 - ok' v)≤2^24:=Nat.pow_le_pow_right (by decide) (by omega)
   calc u* 2^(24 - ok' v)≤u* 2^24:=Nat.mul_le_mul_left _ h1
    _<2^24* 2^24:=Nat.mul_lt_mul_of_pos_right UU (by decide)
    _=2^48:=by decide
  obtain ⟨s2,jl⟩:∃s2,s2=u* 2^(24 - ok' v)%(16777216:Nat):=⟨_,rfl⟩
  have Yf:s2<(16777216:Nat):=by rw [jl];exact Nat.mod_lt _ (by decide)
  have QE:bZ ((List.replicate (oz v) 0++(cI (ok' v) W i).set i (x / 2^ok' v)).map aE) (oz v+i* 1) [aE (x / 2^ok' v+s2)] ((List.replicate (oz v) 0++cI (ok' v) W (i+1)).map aE):=by
   refine l9 (i:=oz v+i) ?_ (by rw [List.length_append,hz,l2];omega) (by omega)
   have:=Cg (l:=List.replicate (oz v) 0) (m:=(cI (ok' v) W i).set i (x / 2^ok' v)) (i:=i) (y:=x / 2^ok' v+s2)
   rw [hz,List.set_set] at this
   rw [jl,show (16777216:Nat)=2^24 by decide] at this
   rw [jl,show (16777216:Nat)=2^24 by decide,this,hst]
  have Qy:oz v+i* 1+(aE (x / 2^ok' v+s2)).cells.length≤((List.replicate (oz v) 0++(cI (ok' v) W i).set i (x / 2^ok' v)).map aE).length:=by
   rw [List.length_map,List.length_append,hz,l2];show _+1≤_;omega
  have key:=Ro k (oz v) W.length i x (x / 2^ok' v) u (24 - ok' v) (u* 2^(24 - ok' v)) s2 (x / 2^ok' v+s2) c (ok' v) ((List.replicate (oz v) 0++cI (ok' v) W i).map aE) ((List.replicate (oz v) 0++(cI (ok' v) W i).set i (x / 2^ok' v)).map aE) ((List.replicate (oz v) 0++cI (ok' v) W (i+1)).map aE)
  exact aq key ⟨decide_eq_true (by omega),⟨rfl,hi⟩,uO,AM rfl (by omega),decide_eq_false (by omega),⟨rfl,hi⟩,L7 _,hsp _,aR (by omega) (by omega),decide_eq_true (by omega),⟨rfl,hi⟩,pS L5 (by omega),aR (by omega) (by omega),⟨rfl,by omega⟩,pS Up (by omega),aR (by omega) (by omega),RZ rfl (by omega) (by omega),decide_eq_false (by omega),by rw [jl];exact fQ _ _,rfl,aR (by omega) (by omega),⟨rfl,hi⟩,Qy,QE,aR (by omega) (by omega),trivial⟩
theorem KM (v:Nat) (hv:0<v) (hb:(dg (16777216:Nat) v).length<2^39):iV P0 89 [.g ((dg (16777216:Nat) v).map aE) 0 1 (dg (16777216:Nat) v).length] (.gt (oz v) (dg (16777216:Nat) (od v)).length [iv (tz v)]) ((gp v).map aE):=by
 have hz:(List.replicate (oz v) 0).length=oz v:=List.length_replicate
 have e0:=pM (b:=(16777216:Nat)) (by decide) (rE hv) (oz v)
 rw [Dt hv] at e0
 have el:(dg (16777216:Nat) v).length=oz v+(dg (16777216:Nat) (ow v)).length:=by rw [e0,List.length_append,hz]
 obtain ⟨k,hk⟩:∃k,k=(dg (16777216:Nat) v).length+30:=⟨_,rfl⟩
 have hok:=nP v
 have l1:=bR (show oz v+1≤k by omega) (Ae k v hv (by omega) (oz v) 0 (by omega))
 have l2:=bR (show ok' v+1≤k by omega) (HF k v ((24* oz v:Nat):Int) hv (ok' v) 0 (by omega))
 have l3:=bK (f:=aU MD t20 k 89 2) (S:=fun i=>SC v i ((24* oz v:Nat):Int) []) (n:=(dg (16777216:Nat) (ow v)).length) (fun i hi=>Fo k v i _ hi (by omega))
  (aq (Rm k (oz v) (dg (16777216:Nat) (ow v)).length (dg (16777216:Nat) (ow v)).length _ _ _) ⟨decide_eq_false (by omega),trivial⟩) (by simp) k (by omega)
 unfold SC at l3
 rw [DK,FW] at l3
 have tr:=xU (p:=List.replicate (oz v) 0) (l:=shr (ok' v) (dg (16777216:Nat) (ow v))) (by rw [gx];omega) (Af v)
 rw [show (16777216:Nat)=(16777216:Nat) from rfl,Ag hv,hz,gx] at tr
 have hlen:((gp v).map aE).length=((dg (16777216:Nat) v).map aE).length:=by
  rw [List.length_map,List.length_map,gp,List.length_append,gx,hz,el]
 rw [←el,←e0] at l1
 have hw:IntKind.i64.wrap (((24* oz v:Nat):Int)+((ok' v:Nat):Int))=((tz v:Nat):Int):=by
  refine aR ?_ ?_
  · unfold oz ok';omega
  · have:tz v=24* oz v+ok' v:=by unfold oz ok';omega
    omega
 rw [←e0] at l2
 rw [←e0] at l3
 exact jE ah rO (by rfl) (Rq k (oz v) (dg (16777216:Nat) (ow v)).length (dg (16777216:Nat) v).length _ ((24* oz v:Nat):Int) (ok' v:Nat) (tz v:Nat) ((dg (16777216:Nat) v).map aE) ((gp v).map aE)) ⟨fS _,hlen,l1,l2,l3,tr,hw,trivial⟩
end Go.Proofs.YtibbgjafjhcemaaGreatDoor.Cul
