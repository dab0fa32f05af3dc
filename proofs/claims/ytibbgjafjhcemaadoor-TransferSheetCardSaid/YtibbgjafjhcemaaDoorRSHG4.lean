/- Part of a proof by an abstract machine for the program's code: lemmas, without conditions of their own beyond those that each states. (Made smaller by a program: short names, no comments.) -/
import Derived.Test.YtibbgjafjhcemaaDoorRSHG3
set_option linter.unusedVariables false
set_option linter.unusedSimpArgs false
set_option maxRecDepth 100000
set_option maxHeartbeats 2000000
namespace Go.Proofs.YtibbgjafjhcemaaDoor.Cul
open Go Go.RowKit
def iz (g:Bool) (s:ByteArray):PV:= .ag [bv g,sv s]
def cL (g:Bool) (s:ByteArray):Bool:=if s.size=0 then !g else decide ((s[0]?).map (·.toNat)≠some 0)
noncomputable def gV:List PV→Option RV:=cu (fun _:Bool×ByteArray=>True) (fun x=>[iz x.1 x.2]) (fun x=>one (bv (cL x.1 x.2)))
noncomputable def Q4:List PV→Option RV:=cu (fun s:ByteArray=>s.size<2^30) (fun s=>[sv s]) (fun s=>one (nat (dg (4294967296:Nat) (bR s))))
noncomputable def Lz:List PV→Option RV:=cu (fun x:Nat×Nat=>0<x.2∧(dg (4294967296:Nat) x.1).length<2^39∧(dg (4294967296:Nat) x.2).length<2^39) (fun x=>[nat (dg (4294967296:Nat) x.1),nat (dg (4294967296:Nat) x.2)]) (fun x=>one (.an [xo x.1 x.2,nat (dg (4294967296:Nat) (x.1%x.2))]))
noncomputable def CO:List PV→Option RV:=cu (fun l:List Nat=>bB (4294967296:Nat) l∧l.length≤2) (fun l=>[nat l]) (fun l=>one (bK (val (4294967296:Nat) l)))
noncomputable def Ep:List PV→Option RV:=cu (fun n:Nat=>n<2^64) (fun n=>[bK n]) (fun n=>one (nat (dg (4294967296:Nat) n)))
noncomputable def Eo:List PV→Option RV:=cu (fun x:List Nat×Bool=>x.1.length<2^40∧bB (4294967296:Nat) x.1) (fun x=>[nat x.1,bv x.2]) (fun x=>one (.ag (zc (if x.2 then -(val (4294967296:Nat) x.1:Int) else (val (4294967296:Nat) x.1:Int)))))
noncomputable def t11:Cl:=bQ [(63,gV),(92,Q4),(93,Lz),(94,CO),(82,Ep),(83,Eo)]
theorem Zr (k:Nat) (g:Bool) (s:ByteArray):ay MD t3 k 63 [iz g s] [.c true]=
 some (RV.mk (PV.lit (Value.bool !g)) none,[(s.toList==(ByteArray.mk #[]).toList)=true]):=by kernel_rfl
theorem Zs (k b:Nat) (g r:Bool) (s:ByteArray):ay MD t3 k 63 [iz g s] [.c false, .i 11 b, .c r]=
 some (RV.mk (PV.lit (Value.bool r)) none,[(s.toList==(ByteArray.mk #[]).toList)=false,fu s (0:Int) (↑b:Int),((↑b:Int) !=(0:Int))=r]):=by kernel_rfl
theorem VT (k na nb nx ny n m:Nat) (g h:Bool) (s t:ByteArray) (as' bs' xs ys:List PV) (e:Bool) (u:ByteArray) (w:PV):ay MD t11 k 81 [iz g s,iz h t] [.r (one (bv true)), .r (one (bv true)), .r (one (.sl 1 na as')), .r (one (.sl 1 nb bs')), .l (.exit 0) ⟨[(4, .bp 4 0),(5, .pv (.sl 1 nx xs)),(6, .pv (.sl 1 ny ys)),(38, .pv (bv false))],[(4,[bv false,sv ⟨#[]⟩])],[],[]⟩, .c true, .r (one (iz e u))]=
 some (RV.mk (PV.ag [PV.lit (Value.bool e),PV.lit (Value.string u)]) none,[aa t11 63 [PV.ag [PV.lit (Value.bool g),PV.lit (Value.string s)]] (RV.mk (PV.lit (Value.bool true)) none),aa t11 63 [PV.ag [PV.lit (Value.bool h),PV.lit (Value.string t)]] (RV.mk (PV.lit (Value.bool true)) none),aa t11 92 [PV.lit (Value.string s)] (RV.mk (PV.sl 1 na as') none),aa t11 92 [PV.lit (Value.string t)] (RV.mk (PV.sl 1 nb bs') none),aN MD t11 k (81:Nat) (0:Nat) (St.mk [(4,AV.bp 4 0),(5,AV.pv (PV.sl 1 na as')),(6,AV.pv (PV.sl 1 nb bs'))] [(4,[PV.lit (Value.bool false),PV.lit (Value.string (ByteArray.mk #[]))])] [] []) (Xt.exit 0) (St.mk [(4,AV.bp 4 0),(5,AV.pv (PV.sl 1 nx xs)),(6,AV.pv (PV.sl 1 ny ys)),(38,AV.pv (PV.lit (Value.bool false)))] [(4,[PV.lit (Value.bool false),PV.lit (Value.string (ByteArray.mk #[]))])] [] []),((↑ny:Int)==(0:Int))=true,aa t11 83 [PV.sl 1 nx xs,PV.lit (Value.bool false)] (RV.mk (PV.ag [PV.lit (Value.bool e),PV.lit (Value.string u)]) none)]):=by kernel_rfl
theorem VU (k na nb nx ny n m:Nat) (g h:Bool) (s t:ByteArray) (as' bs' xs ys:List PV) (e:Bool) (u:ByteArray) (w:PV) (n0 m0:Nat):ay MD t11 k 81 [iz g s,iz h t] [.r (one (bv true)), .r (one (bv true)), .r (one (.sl 1 na as')), .r (one (.sl 1 nb bs')), .l (.exit 0) ⟨[(4, .bp 4 0),(5, .pv (.sl 1 nx xs)),(6, .pv (.sl 1 ny ys)),(38, .pv (bv false))],[(4,[bv false,sv ⟨#[]⟩])],[],[]⟩, .c false, .r (one (bK n0)), .r (one (bK m0)), .l (.exit 2) ⟨[(4, .bp 4 0),(9, .pv (bK n)),(10, .pv (bK m)),(57, .pv (bv false))],[(4,[bv false,sv ⟨#[]⟩])],[],[]⟩, .r (one w), .r (one (iz e u))]=
 some (RV.mk (PV.ag [PV.lit (Value.bool e),PV.lit (Value.string u)]) none,[aa t11 63 [PV.ag [PV.lit (Value.bool g),PV.lit (Value.string s)]] (RV.mk (PV.lit (Value.bool true)) none),aa t11 63 [PV.ag [PV.lit (Value.bool h),PV.lit (Value.string t)]] (RV.mk (PV.lit (Value.bool true)) none),aa t11 92 [PV.lit (Value.string s)] (RV.mk (PV.sl 1 na as') none),aa t11 92 [PV.lit (Value.string t)] (RV.mk (PV.sl 1 nb bs') none),aN MD t11 k (81:Nat) (0:Nat) (St.mk [(4,AV.bp 4 0),(5,AV.pv (PV.sl 1 na as')),(6,AV.pv (PV.sl 1 nb bs'))] [(4,[PV.lit (Value.bool false),PV.lit (Value.string (ByteArray.mk #[]))])] [] []) (Xt.exit 0) (St.mk [(4,AV.bp 4 0),(5,AV.pv (PV.sl 1 nx xs)),(6,AV.pv (PV.sl 1 ny ys)),(38,AV.pv (PV.lit (Value.bool false)))] [(4,[PV.lit (Value.bool false),PV.lit (Value.string (ByteArray.mk #[]))])] [] []),((↑ny:Int)==(0:Int))=false,aa t11 94 [PV.sl 1 nx xs] (RV.mk (PV.lit (Value.int IntKind.u64 (↑n0:Int))) none),aa t11 94 [PV.sl 1 ny ys] (RV.mk (PV.lit (Value.int IntKind.u64 (↑m0:Int))) none),aN MD t11 k (81:Nat) (1:Nat) (St.mk [(4,AV.bp 4 0),(9,AV.pv (PV.lit (Value.int IntKind.u64 (↑n0:Int)))),(10,AV.pv (PV.lit (Value.int IntKind.u64 (↑m0:Int))))] [(4,[PV.lit (Value.bool false),PV.lit (Value.string (ByteArray.mk #[]))])] [] []) (Xt.exit 2) (St.mk [(4,AV.bp 4 0),(9,AV.pv (PV.lit (Value.int IntKind.u64 (↑n:Int)))),(10,AV.pv (PV.lit (Value.int IntKind.u64 (↑m:Int)))),(57,AV.pv (PV.lit (Value.bool false)))] [(4,[PV.lit (Value.bool false),PV.lit (Value.string (ByteArray.mk #[]))])] [] []),aa t11 82 [PV.lit (Value.int IntKind.u64 (↑n:Int))] (RV.mk w none),aa t11 83 [w,PV.lit (Value.bool false)] (RV.mk (PV.ag [PV.lit (Value.bool e),PV.lit (Value.string u)]) none)]):=by kernel_rfl
theorem V0 (k nx ny nr:Nat) (xs ys rs:List PV) (q:PV):ak MD t11 k 81 0 ⟨[(4, .bp 4 0),(5, .pv (.sl 1 nx xs)),(6, .pv (.sl 1 ny ys))],[(4,[bv false,sv ⟨#[]⟩])],[],[]⟩ [.c true, .r (one (.an [q, .sl 1 nr rs]))]=
 some ((Xt.normal,St.mk [(4,AV.bp 4 0),(5,AV.pv (PV.sl 1 ny ys)),(6,AV.pv (PV.sl 1 nr rs))] [(4,[PV.lit (Value.bool false),PV.lit (Value.string (ByteArray.mk #[]))])] [] []),[],[decide ((↑ny:Int)>(2:Int))=true,aa t11 93 [PV.sl 1 nx xs,PV.sl 1 ny ys] (RV.mk (PV.an [q,PV.sl 1 nr rs]) none)]):=by kernel_rfl
theorem V1 (k nx ny nr:Nat) (xs ys rs:List PV) (q:PV):ak MD t11 k 81 0 ⟨[(4, .bp 4 0),(5, .pv (.sl 1 nx xs)),(6, .pv (.sl 1 ny ys))],[(4,[bv false,sv ⟨#[]⟩])],[],[]⟩ [.c false, .c true, .c true, .r (one (.an [q, .sl 1 nr rs]))]=
 some ((Xt.normal,St.mk [(4,AV.bp 4 0),(5,AV.pv (PV.sl 1 ny ys)),(6,AV.pv (PV.sl 1 nr rs))] [(4,[PV.lit (Value.bool false),PV.lit (Value.string (ByteArray.mk #[]))])] [] []),[],[decide ((↑ny:Int)>(2:Int))=false,decide ((↑nx:Int)>(2:Int))=true,decide ((↑ny:Int)>(0:Int))=true,aa t11 93 [PV.sl 1 nx xs,PV.sl 1 ny ys] (RV.mk (PV.an [q,PV.sl 1 nr rs]) none)]):=by kernel_rfl
theorem V2 (k nx ny nr:Nat) (xs ys rs:List PV) (q:PV):ak MD t11 k 81 0 ⟨[(4, .bp 4 0),(5, .pv (.sl 1 nx xs)),(6, .pv (.sl 1 ny ys))],[(4,[bv false,sv ⟨#[]⟩])],[],[]⟩ [.c false, .c false]=
 some ((Xt.exit 0,St.mk [(4,AV.bp 4 0),(5,AV.pv (PV.sl 1 nx xs)),(6,AV.pv (PV.sl 1 ny ys)),(38,AV.pv (PV.lit (Value.bool false)))] [(4,[PV.lit (Value.bool false),PV.lit (Value.string (ByteArray.mk #[]))])] [] []),[],[decide ((↑ny:Int)>(2:Int))=false,decide ((↑nx:Int)>(2:Int))=false]):=by kernel_rfl
theorem V3 (k nx ny nr:Nat) (xs ys rs:List PV) (q:PV):ak MD t11 k 81 0 ⟨[(4, .bp 4 0),(5, .pv (.sl 1 nx xs)),(6, .pv (.sl 1 ny ys))],[(4,[bv false,sv ⟨#[]⟩])],[],[]⟩ [.c false, .c true, .c false]=
 some ((Xt.exit 0,St.mk [(4,AV.bp 4 0),(5,AV.pv (PV.sl 1 nx xs)),(6,AV.pv (PV.sl 1 ny ys)),(38,AV.pv (PV.lit (Value.bool false)))] [(4,[PV.lit (Value.bool false),PV.lit (Value.string (ByteArray.mk #[]))])] [] []),[],[decide ((↑ny:Int)>(2:Int))=false,decide ((↑nx:Int)>(2:Int))=true,decide ((↑ny:Int)>(0:Int))=false]):=by kernel_rfl
theorem V4 (k n m:Nat):ak MD t11 k 81 1 ⟨[(4, .bp 4 0),(9, .pv (bK n)),(10, .pv (bK m))],[(4,[bv false,sv ⟨#[]⟩])],[],[]⟩ [.c false]=
 some ((Xt.exit 2,St.mk [(4,AV.bp 4 0),(9,AV.pv (PV.lit (Value.int IntKind.u64 (↑n:Int)))),(10,AV.pv (PV.lit (Value.int IntKind.u64 (↑m:Int)))),(57,AV.pv (PV.lit (Value.bool false)))] [(4,[PV.lit (Value.bool false),PV.lit (Value.string (ByteArray.mk #[]))])] [] []),[],[((↑m:Int) !=(0:Int))=false]):=by kernel_rfl
theorem V5 (k n m:Nat):ak MD t11 k 81 1 ⟨[(4, .bp 4 0),(9, .pv (bK n)),(10, .pv (bK m))],[(4,[bv false,sv ⟨#[]⟩])],[],[]⟩ [.c true, .i 61 (n%m:Nat)]=
 some ((Xt.normal,St.mk [(4,AV.bp 4 0),(9,AV.pv (PV.lit (Value.int IntKind.u64 (↑m:Int)))),(10,AV.pv (PV.lit (Value.int IntKind.u64 (↑(n%m):Int))))] [(4,[PV.lit (Value.bool false),PV.lit (Value.string (ByteArray.mk #[]))])] [] []),[],[((↑m:Int) !=(0:Int))=true,(↑n:Int).tmod (↑m:Int)=(↑(n%m):Int),decide ((↑m:Int)=(0:Int))=false]):=by kernel_rfl
theorem cS {s:ByteArray}:(s.toList==(ByteArray.mk #[]).toList)=decide (s.size=0):=by
 rw [ByteArray.toList_eq,ByteArray.toList_eq]
 have hz:s.size=s.data.toList.length:=rfl
 rw [hz]
 cases s.data.toList with
 |nil=>rfl
 |cons c t=>simp
theorem ux (g:Bool) (s:ByteArray):aA P0 63 [iz g s] (one (bv (cL g s))):=by
 by_cases h:s.size=0
 · have:=ai ah kL (by rfl) (Zr 1 g s) ⟨by rw [cS];simpa using h,trivial⟩
   simp only [cL,h,if_true]
   exact this
 · obtain ⟨n,hn⟩:∃n,s.size=n+1:=⟨s.size - 1,by omega⟩
   obtain ⟨b,hb,_⟩:=jq hn
   have e:cL g s=decide (b.toNat≠0):=by
    simp only [cL,h,if_false,hb,Option.map_some,ne_eq,Option.some.injEq]
   rw [e]
   refine ai ah kL (by rfl) (Zs 1 b.toNat g (decide (b.toNat≠0)) s) ⟨by rw [cS];simpa using h,mj hb, ?_,trivial⟩
   by_cases h0:b.toNat=0
   · simp [h0]
   · simp [h0]
theorem sZ (z:Int):cL (decide (z<0)) (aH z.natAbs)=true:=by
 unfold cL
 have hl:=bW (aH z.natAbs)
 rw [dJ] at hl
 by_cases h:(aH z.natAbs).size=0
 · rw [if_pos h]
   have:dg 256 z.natAbs=[]:=List.length_eq_zero_iff.1 (by omega)
   have hv:=ct (b:=256) (by decide) z.natAbs
   rw [this] at hv
   simp only [val] at hv
   simp;omega
 · rw [if_neg h]
   obtain ⟨n,hn⟩:∃n,(aH z.natAbs).size=n+1:=⟨(aH z.natAbs).size - 1,by omega⟩
   obtain ⟨b,hb,rG⟩:=jq hn
   have va:=FO z.natAbs
   rcases va with h1|⟨m,x,h1,h2⟩
   · rw [h1] at rG;simp at rG
   · rw [h1] at rG
     have:=(List.append_inj' rG rfl).2
     simp only [List.cons.injEq,and_true] at this
     rw [hb];simp;omega
theorem FM {a b:Bool×ByteArray} (e:[iz a.1 a.2]=[iz b.1 b.2]):a=b:=by
 simp only [iz,bv,sv,List.cons.injEq,and_true,PV.ag.injEq,PV.lit.injEq,Value.bool.injEq,Value.string.injEq] at e
 exact Prod.ext e.1 e.2
theorem cO (g:Bool) (s:ByteArray):gV [iz g s]=some (one (bv (cL g s))):=
 bl (a:=(g,s)) (enc:=fun x:Bool×ByteArray=>[iz x.1 x.2]) (fun a b e=>by rw [FM e]) trivial
theorem wA {s t:ByteArray} (e:sv s=sv t):s=t:=by simpa [sv] using e
theorem FY {s:ByteArray} (h:s.size<2^30):Q4 [sv s]=some (one (nat (dg (4294967296:Nat) (bR s)))):=
 bl (enc:=fun s:ByteArray=>[sv s]) (fun a b e=>by rw [wA (List.cons.inj e).1]) h
theorem EJ {a b:Nat} (h:dg (4294967296:Nat) a=dg (4294967296:Nat) b):a=b:=by
 have:=congrArg (val (4294967296:Nat)) h
 rwa [ct (by decide),ct (by decide)] at this
theorem BQ {a b:Nat} (hb:0<b) (h1:(dg (4294967296:Nat) a).length<2^39) (h2:(dg (4294967296:Nat) b).length<2^39):Lz [nat (dg (4294967296:Nat) a),nat (dg (4294967296:Nat) b)]=some (one (.an [xo a b,nat (dg (4294967296:Nat) (a%b))])):=
 bl (a:=(a,b)) (enc:=fun x:Nat×Nat=>[nat (dg (4294967296:Nat) x.1),nat (dg (4294967296:Nat) x.2)]) (fun a b e=>by
  simp only [List.cons.injEq,and_true] at e
  rw [EJ (iu e.1),EJ (iu e.2)]) ⟨hb,h1,h2⟩
theorem vZ {l:List Nat} (h:bB (4294967296:Nat) l) (h2:l.length≤2):CO [nat l]=some (one (bK (val (4294967296:Nat) l))):=
 bl (enc:=fun l:List Nat=>[nat l]) (fun a b e=>by rw [iu (List.cons.inj e).1]) ⟨h,h2⟩
theorem K8 {a b:Nat} (h:bK a=bK b):a=b:=by
 simp only [bK,PV.lit.injEq,Value.int.injEq,true_and] at h;omega
theorem uy {n:Nat} (h:n<2^64):Ep [bK n]=some (one (nat (dg (4294967296:Nat) n))):=
 bl (enc:=fun n:Nat=>[bK n]) (fun a b e=>by rw [K8 (List.cons.inj e).1]) h
theorem qF {l:List Nat} (h:l.length<2^40) (hd:bB (4294967296:Nat) l) (b:Bool):Eo [nat l,bv b]=some (one (.ag (zc (if b then -(val (4294967296:Nat) l:Int) else (val (4294967296:Nat) l:Int))))):=
 bl (a:=(l,b)) (enc:=fun x:List Nat×Bool=>[nat x.1,bv x.2]) (fun a b e=>by
  simp only [List.cons.injEq,and_true] at e
  have h2:a.2=b.2:=by simpa [bv] using e.2
  rw [iu e.1,h2]) ⟨h,hd⟩
theorem GZ:aP MD.P t11:=aO
 (au (aE fun x _=>ux x.1 x.2)
 (au (aE fun s h=>Pc s h)
 (au (aE fun x h=>ET h.1 h.2.1 h.2.2)
 (au (aE fun l h=>GM l h.1 h.2)
 (au (aE fun n h=>C2 n h)
 (au (aE fun x h=>C1 x.1 h.1 h.2 x.2) aL))))))
def Sg (x y:Nat) (e:List (Nat×AV)):St:=⟨(4, .bp 4 0)::(5, .pv (nat (dg (4294967296:Nat) x)))::(6, .pv (nat (dg (4294967296:Nat) y)))::e,[(4,[bv false,sv ⟨#[]⟩])],[],[]⟩
theorem jI (x y:Nat):Nat.gcd y (x%y)=Nat.gcd x y:=by
 rw [Nat.gcd_comm x y,Nat.gcd_rec y x,Nat.gcd_comm]
theorem oq {a b:Nat} (h:a≤b):(dg (4294967296:Nat) a).length≤(dg (4294967296:Nat) b).length:=by
 rcases Nat.lt_or_ge (dg (4294967296:Nat) b).length (dg (4294967296:Nat) a).length with h1|h1
 · have:=nY h1;omega
 · exact h1
theorem BO {a:Nat} (h:(dg (4294967296:Nat) a).length=0):a=0:=by
 have:=eG (b:=(4294967296:Nat)) (n:=a) (by decide)
 rw [h] at this;simpa using this
theorem HG (k:Nat):∀(y x:Nat),(dg (4294967296:Nat) x).length<2^39→(dg (4294967296:Nat) y).length<2^39→∃x' y',Nat.gcd x' y'=Nat.gcd x y∧(dg (4294967296:Nat) x').length<2^39∧(y'=0∨(dg (4294967296:Nat) x').length≤2∧(dg (4294967296:Nat) y').length≤2)∧aR (aI MD t11 k 81 0) (y+1) (Sg x y [])=some (.exit 0,Sg x' y' [(38, .pv (bv false))]):=by
 intro y
 induction y using Nat.strongRecOn with
 |_ y ih=>
  intro x hx hy
  by_cases h1:2<(dg (4294967296:Nat) y).length
  · have hy0:0<y:=by
      rcases Nat.eq_zero_or_pos y with h|h
      · subst h;simp [eB] at h1
      · exact h
    have hr:x%y<y:=Nat.mod_lt _ hy0
    obtain ⟨x',y',g1,g2,g3,g4⟩:=ih (x%y) hr y hy (Nat.lt_of_le_of_lt (oq (Nat.le_of_lt hr)) hy)
    refine ⟨x',y',by rw [g1,jI],g2,g3, ?_⟩
    have hc:=BQ hy0 hx hy
    exact aW (af (V0 k _ _ _ _ _ _ (xo x y)) ⟨by simp;omega,hc,trivial⟩) (bH (by omega) g4)
  · by_cases h2:2<(dg (4294967296:Nat) x).length
    · by_cases h3:0<(dg (4294967296:Nat) y).length
      · have hy0:0<y:=by
          rcases Nat.eq_zero_or_pos y with h|h
          · subst h;simp [eB] at h3
          · exact h
        have hr:x%y<y:=Nat.mod_lt _ hy0
        obtain ⟨x',y',g1,g2,g3,g4⟩:=ih (x%y) hr y hy (Nat.lt_of_le_of_lt (oq (Nat.le_of_lt hr)) hy)
        refine ⟨x',y',by rw [g1,jI],g2,g3, ?_⟩
        have hc:=BQ hy0 hx hy
        exact aW (af (V1 k _ _ _ _ _ _ (xo x y)) ⟨by simp;omega,by simp;omega,by simp;omega,hc,trivial⟩) (bH (by omega) g4)
      · have hy0:y=0:=BO (by omega)
        exact ⟨x,y,rfl,hx, .inl hy0,aF (af (V3 k _ _ 0 _ _ [] (.an [])) ⟨by simp;omega,by simp;omega,by rw [show (dg (4294967296:Nat) y).length=0 by omega];rfl,trivial⟩) (by simp)⟩
    · exact ⟨x,y,rfl,hx, .inr ⟨by omega,by omega⟩,aF (af (V2 k _ _ 0 _ _ [] (.an [])) ⟨by simp;omega,by simp;omega,trivial⟩) (by simp)⟩
def Sw (n m:Nat) (e:List (Nat×AV)):St:=⟨(4, .bp 4 0)::(9, .pv (bK n))::(10, .pv (bK m))::e,[(4,[bv false,sv ⟨#[]⟩])],[],[]⟩
theorem E6 (k:Nat):∀(m n:Nat),aR (aI MD t11 k 81 1) (m+1) (Sw n m [])=some (.exit 2,Sw (Nat.gcd n m) 0 [(57, .pv (bv false))]):=by
 intro m
 induction m using Nat.strongRecOn with
 |_ m ih=>
  intro n
  by_cases h:m=0
  · subst h
    rw [Nat.gcd_zero_right]
    exact aF (af (V4 k n 0) ⟨rfl,trivial⟩) (by simp)
  · have hr:n%m<m:=Nat.mod_lt _ (by omega)
    have:=ih (n%m) hr m
    rw [jI] at this
    exact aW (af (V5 k n m) ⟨by simpa using h,fy _ _,by simpa using h,trivial⟩) (bH (by omega) this)
theorem LP (a b:Int) (ha:(aH a.natAbs).size<2^30) (hb:(aH b.natAbs).size<2^30):aA P0 81 [.ag (zc a), .ag (zc b)] (one (.ag (zc (Nat.gcd a.natAbs b.natAbs:Nat)))):=by
 have Nc:∀z:Int,(aH z.natAbs).size<2^30→(dg (4294967296:Nat) z.natAbs).length<2^39:=by
  intro z hz
  have h1:=eG (b:=256) (n:=z.natAbs) (by decide)
  have h2:(dg 256 z.natAbs).length=(aH z.natAbs).size:=by rw [←dJ,bW]
  rw [h2] at h1
  have h3:256^(aH z.natAbs).size≤(4294967296:Nat)^(aH z.natAbs).size:=Nat.pow_le_pow_left (by decide) _
  have:=lT (b:=(4294967296:Nat)) (n:=z.natAbs) (k:=(aH z.natAbs).size) (by decide) (by omega)
  omega
 have v1:=cO (decide (a<0)) (aH a.natAbs)
 have v2:=cO (decide (b<0)) (aH b.natAbs)
 rw [sZ] at v1 v2
 have o1:=FY ha
 have o2:=FY hb
 rw [jb] at o1 o2
 obtain ⟨k,hk⟩:∃k,k=a.natAbs+b.natAbs+2^64+5:=⟨_,rfl⟩
 obtain ⟨x,y,g1,g2,g3,g4⟩:=HG k b.natAbs a.natAbs (Nc a ha) (Nc b hb)
 have g4:=bH (show b.natAbs+1≤k by omega) g4
 by_cases hy:y=0
 · subst hy
   rw [Nat.gcd_zero_right] at g1
   have hw:=qF (l:=dg (4294967296:Nat) x) (by omega) (cD (by decide) x) false
   rw [ct (by decide)] at hw
   simp only [Bool.false_eq_true,if_false] at hw
   rw [g1] at hw g4
   have:=ai ah GZ (by rfl) (VT k _ _ _ 0 0 0 (decide (a<0)) (decide (b<0)) (aH a.natAbs) (aH b.natAbs) _ _ (us (dg (4294967296:Nat) (Nat.gcd a.natAbs b.natAbs))) [] (decide (((Nat.gcd a.natAbs b.natAbs:Nat):Int)<0)) (aH ((Nat.gcd a.natAbs b.natAbs:Nat):Int).natAbs) (.an [])) ⟨v1,v2,o1,o2,g4,rfl,hw,trivial⟩
   exact this
 · rcases g3 with g3|⟨l1,l2⟩
   · exact absurd g3 hy
   · have hlt:∀z,(dg (4294967296:Nat) z).length≤2→z<2^64:=by
       intro z hz
       have h1:=eG (b:=(4294967296:Nat)) (n:=z) (by decide)
       have h2:(4294967296:Nat)^(dg (4294967296:Nat) z).length≤(4294967296:Nat)^2:=Nat.pow_le_pow_right (by decide) hz
       omega
     have hxl:=hlt x l1
     have Xn:=hlt y l2
     have Qz:Nat.gcd x y<2^64:=Nat.lt_of_le_of_lt (Nat.gcd_le_right x (by omega)) Xn
     have s1:=vZ (cD (b:=(4294967296:Nat)) (by decide) x) l1
     have s2:=vZ (cD (b:=(4294967296:Nat)) (by decide) y) l2
     rw [ct (by decide)] at s1 s2
     have g5:=bH (show y+1≤k by omega) (E6 k y x)
     have w1:=uy Qz
     have R7:(dg (4294967296:Nat) (Nat.gcd x y)).length<2^40:=Nat.lt_of_le_of_lt (oq (Nat.gcd_le_right x (by omega))) (by omega)
     have hw:=qF (l:=dg (4294967296:Nat) (Nat.gcd x y)) R7 (cD (by decide) _) false
     rw [ct (by decide)] at hw
     simp only [Bool.false_eq_true,if_false] at hw
     have hne:(((dg (4294967296:Nat) y).length:Int)==0)=false:=by
      have:(dg (4294967296:Nat) y).length≠0:=fun h=>hy (BO h)
      simp;intro h;rw [h] at this;simp at this
     rw [g1] at hw g5 w1
     have:=ai ah GZ (by rfl) (VU k _ _ _ _ (Nat.gcd a.natAbs b.natAbs) 0 (decide (a<0)) (decide (b<0)) (aH a.natAbs) (aH b.natAbs) _ _ (us (dg (4294967296:Nat) x)) (us (dg (4294967296:Nat) y)) (decide (((Nat.gcd a.natAbs b.natAbs:Nat):Int)<0)) (aH ((Nat.gcd a.natAbs b.natAbs:Nat):Int).natAbs) (nat (dg (4294967296:Nat) (Nat.gcd a.natAbs b.natAbs))) x y) ⟨v1,v2,o1,o2,g4,hne,s1,s2,g5,w1,hw,trivial⟩
     exact this
end Go.Proofs.YtibbgjafjhcemaaDoor.Cul
namespace Go.Proofs.YtibbgjafjhcemaaDoor.Cul
open Go Go.RowKit
noncomputable def t12:Cl:=bQ [(63,gV),(82,Ep),(83,Eo)]
theorem XQ (k:Nat) (g:Bool) (s:ByteArray):ay MD t12 k 54 [iz g s] [.r (one (bv false))]=
 some (RV.mk (PV.ag [PV.lit (Value.bool false),PV.lit (Value.string (ByteArray.mk #[]))]) none,[aa t12 63 [PV.ag [PV.lit (Value.bool g),PV.lit (Value.string s)]] (RV.mk (PV.lit (Value.bool false)) none)]):=by kernel_rfl
theorem XR (k:Nat) (s:ByteArray):ay MD t12 k 54 [iz true s] [.r (one (bv true))]=
 some (RV.mk (PV.ag [PV.lit (Value.bool false),PV.lit (Value.string s)]) none,[aa t12 63 [PV.ag [PV.lit (Value.bool true),PV.lit (Value.string s)]] (RV.mk (PV.lit (Value.bool true)) none)]):=by kernel_rfl
theorem XS (k:Nat) (b:Bool) (s:ByteArray):ay MD t12 k 54 [iz false s] [.r (one (bv true)), .c b]=
 some (RV.mk (PV.ag [PV.lit (Value.bool b),PV.lit (Value.string s)]) none,[aa t12 63 [PV.ag [PV.lit (Value.bool false),PV.lit (Value.string s)]] (RV.mk (PV.lit (Value.bool true)) none),(!s.toList==(ByteArray.mk #[]).toList)=b]):=by kernel_rfl
theorem YI (k:Nat) (g:Bool) (s:ByteArray):ay MD t12 k 64 [iz g s] [.r (one (bv false))]=
 some (RV.mk (PV.lit (Value.int IntKind.i64 (0:Int))) none,[aa t12 63 [PV.ag [PV.lit (Value.bool g),PV.lit (Value.string s)]] (RV.mk (PV.lit (Value.bool false)) none)]):=by kernel_rfl
theorem YJ (k:Nat) (g:Bool) (s:ByteArray):ay MD t12 k 64 [iz g s] [.r (one (bv true)), .c true]=
 some (RV.mk (PV.lit (Value.int IntKind.i64 (0:Int))) none,[aa t12 63 [PV.ag [PV.lit (Value.bool g),PV.lit (Value.string s)]] (RV.mk (PV.lit (Value.bool true)) none),(s.toList==(ByteArray.mk #[]).toList)=true]):=by kernel_rfl
theorem YK (k:Nat) (s:ByteArray):ay MD t12 k 64 [iz true s] [.r (one (bv true)), .c false]=
 some (RV.mk (PV.lit (Value.int IntKind.i64 (-1:Int))) none,[aa t12 63 [PV.ag [PV.lit (Value.bool true),PV.lit (Value.string s)]] (RV.mk (PV.lit (Value.bool true)) none),(s.toList==(ByteArray.mk #[]).toList)=false]):=by kernel_rfl
theorem YL (k:Nat) (s:ByteArray):ay MD t12 k 64 [iz false s] [.r (one (bv true)), .c false]=
 some (RV.mk (PV.lit (Value.int IntKind.i64 (1:Int))) none,[aa t12 63 [PV.ag [PV.lit (Value.bool false),PV.lit (Value.string s)]] (RV.mk (PV.lit (Value.bool true)) none),(s.toList==(ByteArray.mk #[]).toList)=false]):=by kernel_rfl
theorem Vv (k nw:Nat) (n w v:Int) (ws:List PV) (e:Bool) (u:ByteArray):ay MD t12 k 66 [iv n] [.c true, .i 6 w, .i 7 v, .r (one (.sl 1 nw ws)), .r (one (iz e u))]=
 some (RV.mk (PV.ag [PV.lit (Value.bool e),PV.lit (Value.string u)]) none,[decide (n<(0:Int))=true,IntKind.u64.wrap n=w,IntKind.u64.wrap ((0:Int) - w)=v,aa t12 82 [PV.lit (Value.int IntKind.u64 v)] (RV.mk (PV.sl 1 nw ws) none),aa t12 83 [PV.sl 1 nw ws,PV.lit (Value.bool true)] (RV.mk (PV.ag [PV.lit (Value.bool e),PV.lit (Value.string u)]) none)]):=by kernel_rfl
theorem Vw (k nw:Nat) (n w:Int) (ws:List PV) (e:Bool) (u:ByteArray):ay MD t12 k 66 [iv n] [.c false, .i 11 w, .r (one (.sl 1 nw ws)), .r (one (iz e u))]=
 some (RV.mk (PV.ag [PV.lit (Value.bool e),PV.lit (Value.string u)]) none,[decide (n<(0:Int))=false,IntKind.u64.wrap n=w,aa t12 82 [PV.lit (Value.int IntKind.u64 w)] (RV.mk (PV.sl 1 nw ws) none),aa t12 83 [PV.sl 1 nw ws,PV.lit (Value.bool false)] (RV.mk (PV.ag [PV.lit (Value.bool e),PV.lit (Value.string u)]) none)]):=by kernel_rfl
theorem kJ:aP MD.P t12:=aO
 (au (aE fun x _=>ux x.1 x.2)
 (au (aE fun n h=>C2 n h)
 (au (aE fun x h=>C1 x.1 h.1 h.2 x.2) aL)))
def uq (g:Bool) (s:ByteArray):PV:=if cL g s then iz (!g&& !decide (s.size=0)) s else iz false ⟨#[]⟩
theorem Ns (g:Bool) (s:ByteArray):aA P0 54 [iz g s] (one (uq g s)):=by
 have v:=cO g s
 unfold uq
 cases h:cL g s with
 |false=>rw [h] at v;exact ai ah kJ (by rfl) (XQ 1 g s) ⟨v,trivial⟩
 |true=>
  rw [h] at v
  cases g with
  |true=>exact ai ah kJ (by rfl) (XR 1 s) ⟨v,trivial⟩
  |false=>exact ai ah kJ (by rfl) (XS 1 (!decide (s.size=0)) s) ⟨v,by rw [cS],trivial⟩
def oB (g:Bool) (s:ByteArray):Int:=if cL g s then (if s.size=0 then 0 else if g then -1 else 1) else 0
theorem KY (g:Bool) (s:ByteArray):aA P0 64 [iz g s] (one (iv (oB g s))):=by
 have v:=cO g s
 unfold oB
 cases h:cL g s with
 |false=>rw [h] at v;exact ai ah kJ (by rfl) (YI 1 g s) ⟨v,trivial⟩
 |true=>
  rw [h] at v
  by_cases hz:s.size=0
  · have:=ai ah kJ (by rfl) (YJ 1 g s) ⟨v,by rw [cS];simpa using hz,trivial⟩
    simp only [hz,if_true];exact this
  · simp only [hz,if_true,if_false]
    cases g with
    |true=>exact ai ah kJ (by rfl) (YK 1 s) ⟨v,by rw [cS];simpa using hz,trivial⟩
    |false=>exact ai ah kJ (by rfl) (YL 1 s) ⟨v,by rw [cS];simpa using hz,trivial⟩
theorem wrap_u64 (a:Int):IntKind.u64.wrap a=a%18446744073709551616:=by
 unfold IntKind.wrap IntKind.bits IntKind.signed
 simp only
 have e1:(2:Int)^64=18446744073709551616:=by decide
 rw [e1];simp
theorem Ck (n:Int) (h1: -(2^63)≤n) (h2:n<2^63):aA P0 66 [iv n] (one (.ag (zc n))):=by
 have hlen:∀m:Nat,m<2^64→(dg (4294967296:Nat) m).length<2^40:=by
  intro m hm
  have:=lT (b:=(4294967296:Nat)) (n:=m) (k:=2) (by decide) (by omega)
  omega
 by_cases hn:n<0
 · obtain ⟨m,hm⟩:∃m:Nat,n= -(m:Int):=⟨n.natAbs,by omega⟩
   have w1:=uy (n:=m) (by omega)
   have w2:=qF (l:=dg (4294967296:Nat) m) (hlen m (by omega)) (cD (by decide) m) true
   rw [ct (by decide)] at w2
   simp only [if_true] at w2
   rw [←hm] at w2
   exact ai ah kJ (by rfl) (Vv 1 _ n (n+18446744073709551616) (m:Int) (us (dg (4294967296:Nat) m)) (decide (n<0)) (aH n.natAbs)) ⟨by simpa using hn,by rw [wrap_u64];omega,by rw [wrap_u64];omega,w1,w2,trivial⟩
 · obtain ⟨m,hm⟩:∃m:Nat,n=(m:Int):=⟨n.natAbs,by omega⟩
   have w1:=uy (n:=m) (by omega)
   have w2:=qF (l:=dg (4294967296:Nat) m) (hlen m (by omega)) (cD (by decide) m) false
   rw [ct (by decide)] at w2
   simp only [Bool.false_eq_true,if_false] at w2
   rw [←hm] at w2
   exact ai ah kJ (by rfl) (Vw 1 _ n (m:Int) (us (dg (4294967296:Nat) m)) (decide (n<0)) (aH n.natAbs)) ⟨by simpa using hn,by rw [wrap_u64];omega,w1,w2,trivial⟩
end Go.Proofs.YtibbgjafjhcemaaDoor.Cul
namespace Go.Proofs.YtibbgjafjhcemaaDoor.Cul
open Go Go.RowKit
noncomputable def Du:List PV→Option RV:=cu (fun x:Int×Int=>(aH x.1.natAbs).size<2^30∧(aH x.2.natAbs).size<2^30) (fun x=>[.ag (zc x.1), .ag (zc x.2)]) (fun x=>one (.ag (zc (Nat.gcd x.1.natAbs x.2.natAbs:Nat))))
noncomputable def D8:List PV→Option RV:=cu (fun _:Bool×ByteArray=>True) (fun x=>[iz x.1 x.2]) (fun x=>one (iv (oB x.1 x.2)))
noncomputable def Ic:List PV→Option RV:=cu (fun n:Int=> -(2^63)≤n∧n<2^63) (fun n=>[iv n]) (fun n=>one (.ag (zc n)))
noncomputable def t13:Cl:=bQ [(81,Du)]
structure fF where
 a:Int
 b:Int
 c:Int
 d:Int
 n:Int
def fF.gcd (x:fF):Nat:=Nat.gcd (Nat.gcd (Nat.gcd (Nat.gcd x.n.natAbs x.a.natAbs) x.b.natAbs) x.c.natAbs) x.d.natAbs
def fF.small (x:fF):Prop:=((aH x.a.natAbs).size<2^30∧(aH x.b.natAbs).size<2^30)∧((aH x.c.natAbs).size<2^30∧(aH x.d.natAbs).size<2^30)∧(aH x.n.natAbs).size<2^30
noncomputable def Lv:List PV→Option RV:=cu fF.small (fun x=>[.ag (zc x.a++zc x.b++zc x.c++zc x.d), .ag (zc x.n)]) (fun x=>one (.ag (zc (x.gcd:Nat))))
noncomputable def t14:Cl:=bQ [(63,gV),(64,D8),(65,Lv),(66,Ic)]
theorem cm (k:Nat) (g0 g1 g2 g3 gd e0 e1 e2 e3:Bool) (s0 s1 s2 s3 sd u0 u1 u2 u3:ByteArray):ay MD t13 k 65 [.ag [bv g0,sv s0,bv g1,sv s1,bv g2,sv s2,bv g3,sv s3],iz gd sd] [.u 5, .c true, .r (one (iz e0 u0)), .c true, .r (one (iz e1 u1)), .c true, .r (one (iz e2 u2)), .c true, .r (one (iz e3 u3)), .c false]=
 some (RV.mk (PV.ag [PV.lit (Value.bool e3),PV.lit (Value.string u3)]) none,[(5:Nat)≤k,true=true,aa t13 81 [PV.ag [PV.lit (Value.bool gd),PV.lit (Value.string sd)],PV.ag [PV.lit (Value.bool g0),PV.lit (Value.string s0)]] (RV.mk (PV.ag [PV.lit (Value.bool e0),PV.lit (Value.string u0)]) none),true=true,aa t13 81 [PV.ag [PV.lit (Value.bool e0),PV.lit (Value.string u0)],PV.ag [PV.lit (Value.bool g1),PV.lit (Value.string s1)]] (RV.mk (PV.ag [PV.lit (Value.bool e1),PV.lit (Value.string u1)]) none),true=true,aa t13 81 [PV.ag [PV.lit (Value.bool e1),PV.lit (Value.string u1)],PV.ag [PV.lit (Value.bool g2),PV.lit (Value.string s2)]] (RV.mk (PV.ag [PV.lit (Value.bool e2),PV.lit (Value.string u2)]) none),true=true,aa t13 81 [PV.ag [PV.lit (Value.bool e2),PV.lit (Value.string u2)],PV.ag [PV.lit (Value.bool g3),PV.lit (Value.string s3)]] (RV.mk (PV.ag [PV.lit (Value.bool e3),PV.lit (Value.string u3)]) none),false=false]):=by kernel_rfl
theorem Vx (k:Nat) (g0 g1 g2 g3 gd:Bool) (s0 s1 s2 s3 sd:ByteArray):ay MD t14 k 43 [.ag [bv g0,sv s0,bv g1,sv s1,bv g2,sv s2,bv g3,sv s3,bv gd,sv sd]] [.u 5, .c true, .r (one (bv false))]=
 some (RV.mk (PV.lit (Value.bool false)) none,[(5:Nat)≤k,true=true,aa t14 63 [PV.ag [PV.lit (Value.bool g0),PV.lit (Value.string s0)]] (RV.mk (PV.lit (Value.bool false)) none)]):=by kernel_rfl
theorem Vy (k:Nat) (g0 g1 g2 g3 gd:Bool) (s0 s1 s2 s3 sd:ByteArray):ay MD t14 k 43 [.ag [bv g0,sv s0,bv g1,sv s1,bv g2,sv s2,bv g3,sv s3,bv gd,sv sd]] [.u 5, .c true, .r (one (bv true)), .c true, .r (one (bv false))]=
 some (RV.mk (PV.lit (Value.bool false)) none,[(5:Nat)≤k,true=true,aa t14 63 [PV.ag [PV.lit (Value.bool g0),PV.lit (Value.string s0)]] (RV.mk (PV.lit (Value.bool true)) none),true=true,aa t14 63 [PV.ag [PV.lit (Value.bool g1),PV.lit (Value.string s1)]] (RV.mk (PV.lit (Value.bool false)) none)]):=by kernel_rfl
theorem Vz (k:Nat) (g0 g1 g2 g3 gd:Bool) (s0 s1 s2 s3 sd:ByteArray):ay MD t14 k 43 [.ag [bv g0,sv s0,bv g1,sv s1,bv g2,sv s2,bv g3,sv s3,bv gd,sv sd]] [.u 5, .c true, .r (one (bv true)), .c true, .r (one (bv true)), .c true, .r (one (bv false))]=
 some (RV.mk (PV.lit (Value.bool false)) none,[(5:Nat)≤k,true=true,aa t14 63 [PV.ag [PV.lit (Value.bool g0),PV.lit (Value.string s0)]] (RV.mk (PV.lit (Value.bool true)) none),true=true,aa t14 63 [PV.ag [PV.lit (Value.bool g1),PV.lit (Value.string s1)]] (RV.mk (PV.lit (Value.bool true)) none),true=true,aa t14 63 [PV.ag [PV.lit (Value.bool g2),PV.lit (Value.string s2)]] (RV.mk (PV.lit (Value.bool false)) none)]):=by kernel_rfl
theorem VA (k:Nat) (g0 g1 g2 g3 gd:Bool) (s0 s1 s2 s3 sd:ByteArray):ay MD t14 k 43 [.ag [bv g0,sv s0,bv g1,sv s1,bv g2,sv s2,bv g3,sv s3,bv gd,sv sd]] [.u 5, .c true, .r (one (bv true)), .c true, .r (one (bv true)), .c true, .r (one (bv true)), .c true, .r (one (bv false))]=
 some (RV.mk (PV.lit (Value.bool false)) none,[(5:Nat)≤k,true=true,aa t14 63 [PV.ag [PV.lit (Value.bool g0),PV.lit (Value.string s0)]] (RV.mk (PV.lit (Value.bool true)) none),true=true,aa t14 63 [PV.ag [PV.lit (Value.bool g1),PV.lit (Value.string s1)]] (RV.mk (PV.lit (Value.bool true)) none),true=true,aa t14 63 [PV.ag [PV.lit (Value.bool g2),PV.lit (Value.string s2)]] (RV.mk (PV.lit (Value.bool true)) none),true=true,aa t14 63 [PV.ag [PV.lit (Value.bool g3),PV.lit (Value.string s3)]] (RV.mk (PV.lit (Value.bool false)) none)]):=by kernel_rfl
theorem VB (k:Nat) (g0 g1 g2 g3 gd:Bool) (s0 s1 s2 s3 sd:ByteArray):ay MD t14 k 43 [.ag [bv g0,sv s0,bv g1,sv s1,bv g2,sv s2,bv g3,sv s3,bv gd,sv sd]] [.u 5, .c true, .r (one (bv true)), .c true, .r (one (bv true)), .c true, .r (one (bv true)), .c true, .r (one (bv true)), .c false, .r (one (bv false))]=
 some (RV.mk (PV.lit (Value.bool false)) none,[(5:Nat)≤k,true=true,aa t14 63 [PV.ag [PV.lit (Value.bool g0),PV.lit (Value.string s0)]] (RV.mk (PV.lit (Value.bool true)) none),true=true,aa t14 63 [PV.ag [PV.lit (Value.bool g1),PV.lit (Value.string s1)]] (RV.mk (PV.lit (Value.bool true)) none),true=true,aa t14 63 [PV.ag [PV.lit (Value.bool g2),PV.lit (Value.string s2)]] (RV.mk (PV.lit (Value.bool true)) none),true=true,aa t14 63 [PV.ag [PV.lit (Value.bool g3),PV.lit (Value.string s3)]] (RV.mk (PV.lit (Value.bool true)) none),false=false,aa t14 63 [PV.ag [PV.lit (Value.bool gd),PV.lit (Value.string sd)]] (RV.mk (PV.lit (Value.bool false)) none)]):=by kernel_rfl
theorem VC (k:Nat) (g0 g1 g2 g3 gd:Bool) (s0 s1 s2 s3 sd:ByteArray) (n:Int):ay MD t14 k 43 [.ag [bv g0,sv s0,bv g1,sv s1,bv g2,sv s2,bv g3,sv s3,bv gd,sv sd]] [.u 5, .c true, .r (one (bv true)), .c true, .r (one (bv true)), .c true, .r (one (bv true)), .c true, .r (one (bv true)), .c false, .r (one (bv true)), .r (one (iv n)), .c false]=
 some (RV.mk (PV.lit (Value.bool false)) none,[(5:Nat)≤k,true=true,aa t14 63 [PV.ag [PV.lit (Value.bool g0),PV.lit (Value.string s0)]] (RV.mk (PV.lit (Value.bool true)) none),true=true,aa t14 63 [PV.ag [PV.lit (Value.bool g1),PV.lit (Value.string s1)]] (RV.mk (PV.lit (Value.bool true)) none),true=true,aa t14 63 [PV.ag [PV.lit (Value.bool g2),PV.lit (Value.string s2)]] (RV.mk (PV.lit (Value.bool true)) none),true=true,aa t14 63 [PV.ag [PV.lit (Value.bool g3),PV.lit (Value.string s3)]] (RV.mk (PV.lit (Value.bool true)) none),false=false,aa t14 63 [PV.ag [PV.lit (Value.bool gd),PV.lit (Value.string sd)]] (RV.mk (PV.lit (Value.bool true)) none),aa t14 64 [PV.ag [PV.lit (Value.bool gd),PV.lit (Value.string sd)]] (RV.mk (PV.lit (Value.int IntKind.i64 n)) none),decide (n>(0:Int))=false]):=by kernel_rfl
theorem VD (k:Nat) (g0 g1 g2 g3 gd b:Bool) (s0 s1 s2 s3 sd u v:ByteArray) (n:Int):ay MD t14 k 43 [.ag [bv g0,sv s0,bv g1,sv s1,bv g2,sv s2,bv g3,sv s3,bv gd,sv sd]] [.u 5, .c true, .r (one (bv true)), .c true, .r (one (bv true)), .c true, .r (one (bv true)), .c true, .r (one (bv true)), .c false, .r (one (bv true)), .r (one (iv n)), .c true, .r (one (iz false u)), .r (one (iz false v)), .g b]=
 some (RV.mk (PV.lit (Value.bool b)) none,[(5:Nat)≤k,true=true,aa t14 63 [PV.ag [PV.lit (Value.bool g0),PV.lit (Value.string s0)]] (RV.mk (PV.lit (Value.bool true)) none),true=true,aa t14 63 [PV.ag [PV.lit (Value.bool g1),PV.lit (Value.string s1)]] (RV.mk (PV.lit (Value.bool true)) none),true=true,aa t14 63 [PV.ag [PV.lit (Value.bool g2),PV.lit (Value.string s2)]] (RV.mk (PV.lit (Value.bool true)) none),true=true,aa t14 63 [PV.ag [PV.lit (Value.bool g3),PV.lit (Value.string s3)]] (RV.mk (PV.lit (Value.bool true)) none),false=false,aa t14 63 [PV.ag [PV.lit (Value.bool gd),PV.lit (Value.string sd)]] (RV.mk (PV.lit (Value.bool true)) none),aa t14 64 [PV.ag [PV.lit (Value.bool gd),PV.lit (Value.string sd)]] (RV.mk (PV.lit (Value.int IntKind.i64 n)) none),decide (n>(0:Int))=true,aa t14 65 [PV.ag [PV.lit (Value.bool g0),PV.lit (Value.string s0),PV.lit (Value.bool g1),PV.lit (Value.string s1),PV.lit (Value.bool g2),PV.lit (Value.string s2),PV.lit (Value.bool g3),PV.lit (Value.string s3)],PV.ag [PV.lit (Value.bool gd),PV.lit (Value.string sd)]] (RV.mk (PV.ag [PV.lit (Value.bool false),PV.lit (Value.string u)]) none),aa t14 66 [PV.lit (Value.int IntKind.i64 (1:Int))] (RV.mk (PV.ag [PV.lit (Value.bool false),PV.lit (Value.string v)]) none),iJ MD.P BinOp.eql 27 (Operand.tmp (28:Nat)) (Operand.tmp (29:Nat)) (Value.agg (Array.mk [Value.bool false,Value.string u])) (Value.agg (Array.mk [Value.bool false,Value.string v])) b]):=by kernel_rfl
theorem kO {a b:Int} (e:zc a=zc b):a=b:=by
 simp only [zc,bv,sv,List.cons.injEq,and_true,PV.lit.injEq,Value.bool.injEq,Value.string.injEq] at e
 have h1:a.natAbs=b.natAbs:=by have:=congrArg bR e.2;rwa [jb,jb] at this
 have h2:(a<0)↔(b<0):=by simpa using e.1
 omega
theorem oP {a b:Int} (ha:(aH a.natAbs).size<2^30) (hb:(aH b.natAbs).size<2^30):Du [.ag (zc a), .ag (zc b)]=some (one (.ag (zc (Nat.gcd a.natAbs b.natAbs:Nat)))):=
 bl (a:=(a,b)) (enc:=fun x:Int×Int=>[.ag (zc x.1), .ag (zc x.2)]) (fun a b e=>by
  simp only [List.cons.injEq,and_true,PV.ag.injEq] at e
  rw [kO e.1,kO e.2]) ⟨ha,hb⟩
theorem Ox:aP MD.P t13:=aO (au (aE fun x h=>LP x.1 x.2 h.1 h.2) aL)
theorem GN {a b:Nat} (h:a≤b):(aH a).size≤(aH b).size:=by
 have e:∀n,(aH n).size=(dg 256 n).length:=fun n=>by rw [←dJ,bW]
 rw [e,e]
 rcases Nat.eq_zero_or_pos a with rfl|ha
 · simp [eB]
 · have h1:=nX (b:=256) (by decide) ha
   have h2:=eG (b:=256) (n:=b) (by decide)
   rcases Nat.lt_or_ge (dg 256 b).length (dg 256 a).length with h3|h3
   · have:256^(dg 256 b).length≤256^((dg 256 a).length - 1):=Nat.pow_le_pow_right (by decide) (by omega)
     omega
   · exact h3
theorem pZ {x y:Nat} (hx:(aH x).size<2^30) (hy:(aH y).size<2^30):(aH (Nat.gcd x y)).size<2^30:=by
 rcases Nat.eq_zero_or_pos y with rfl|h
 · rwa [Nat.gcd_zero_right]
 · exact Nat.lt_of_le_of_lt (GN (Nat.gcd_le_right x h)) hy
theorem EH (x:fF) (h:x.small):aA P0 65 [.ag (zc x.a++zc x.b++zc x.c++zc x.d), .ag (zc x.n)] (one (.ag (zc (x.gcd:Nat)))):=by
 obtain ⟨⟨ha,hb⟩,⟨hc,hd⟩,hn⟩:=h
 have s1:=pZ hn ha
 have s2:=pZ s1 hb
 have s3:=pZ s2 hc
 have c1:=oP hn ha
 have c2:=oP (a:=(Nat.gcd x.n.natAbs x.a.natAbs:Nat)) (b:=x.b) (by simpa using s1) hb
 have c3:=oP (a:=(Nat.gcd (Nat.gcd x.n.natAbs x.a.natAbs) x.b.natAbs:Nat)) (b:=x.c) (by simpa using s2) hc
 have c4:=oP (a:=(Nat.gcd (Nat.gcd (Nat.gcd x.n.natAbs x.a.natAbs) x.b.natAbs) x.c.natAbs:Nat)) (b:=x.d) (by simpa using s3) hd
 simp only [Int.natAbs_natCast] at c2 c3 c4
 exact ai ah Ox (by rfl) (cm 5 _ _ _ _ _ _ _ _ _ _ _ _ _ _ _ _ _ _) ⟨by omega,rfl,c1,rfl,c2,rfl,c3,rfl,c4,rfl,trivial⟩
end Go.Proofs.YtibbgjafjhcemaaDoor.Cul
namespace Go.Proofs.YtibbgjafjhcemaaDoor.Cul
open Go Go.RowKit
theorem aV {α β:Type} {P:Program} {f:α→Sem β}:∀{m:Sem α} {a:α},aB P m=some a→aB P (m.bind f)=aB P (f a):=by
 intro m
 induction m with
 |pure x=>intro a h;simp only [aB,Option.some.injEq] at h;subst h;rfl
 |program k ih=>intro a h;simp only [aB] at h;simp only [Sem.bind,aB];exact ih P h
 |mark x k ih=>intro a h;simp only [aB] at h;simp only [Sem.bind,aB];exact ih h
 |_=>intro a h;simp [aB] at h
theorem uS {P:Program} {d:Nat} {t:TypeId} {f g:Field} {xs ys:Array Value} {a1 a2 b1 b2:Value} {c1 c2:Bool}
  (hu:P.underlying t=some (.struct #[f,g])) (hh:P.stoodInHeld t=false) (hf:f.name≠ "_") (hg:g.name≠ "_")
  (p1:aB P (part f.type xs f.offset)=some a1) (p2:aB P (part f.type ys f.offset)=some b1)
  (p3:aB P (part g.type xs g.offset)=some a2) (p4:aB P (part g.type ys g.offset)=some b2)
  (e1:aB P (Op.equalIn d f.type a1 b1)=some c1) (e2:aB P (Op.equalIn d g.type a2 b2)=some c2):
  aB P (Op.equalIn (d+1) t (.agg xs) (.agg ys))=some (c1&&c2):=by
 simp only [Op.equalIn,underlying,program,Bind.bind,Sem.bind,aB,hu,hh,pure,Pure.pure,Bool.false_eq_true,if_false]
 rw [←Array.forIn_toList]
 simp only [List.forIn_cons,List.forIn_nil,Bind.bind,pure,Pure.pure,hf,hg,ne_eq,not_false_eq_true,if_true]
 have assoc:∀{α β γ:Type} (m:Sem α) (f:α→Sem β) (g:β→Sem γ),(m.bind f).bind g=m.bind fun a=>(f a).bind g:=by
  intro α β γ m
  induction m with
  |pure a=>intro f g;rfl
  |halt h=>intro f g;rfl
  |_=>rename_i ih;intro f g;simp only [Sem.bind];first|(congr 1;funext x;exact ih x f g)|(congr 1;exact ih f g)
 simp only [assoc]
 rw [aV p1,aV p2,aV e1]
 cases c1 with
 |false=>simp [Sem.bind,aB]
 |true=>
  simp only [Bool.not_true,Bool.false_eq_true,if_false,Sem.bind,assoc]
  rw [aV p3,aV p4,aV e2]
  cases c2<;>simp [Sem.bind,aB]
theorem JT:MD.P.underlying 27=some (TypeDesc.struct #[{ name:= "Neg",type:=4,offset:=0,embedded:=false,tag:= "",pkgPath:= "",byteOffset:=0},{ name:= "Mag",type:=9,offset:=1,embedded:=false,tag:= "",pkgPath:= "",byteOffset:=8}]):=by kernel_rfl
theorem Fg:MD.P.stoodInHeld 27=false:=by kernel_rfl
theorem J8 (u v:ByteArray):aB MD.P (Op.equalIn (9999+1) 27 (.agg #[.bool false, .string u]) (.agg #[.bool false, .string v]))=some (true&&(u==v)):=
 uS (a1:= .bool false) (b1:= .bool false) (a2:= .string u) (b2:= .string v) JT Fg (by decide) (by decide) (by kernel_rfl) (by kernel_rfl) (by kernel_rfl) (by kernel_rfl) (by kernel_rfl) (by kernel_rfl)
theorem LI {u v:ByteArray} {b:Bool} (h:(u==v)=b):iJ MD.P .eql 27 (.tmp 28) (.tmp 29) (.agg #[.bool false, .string u]) (.agg #[.bool false, .string v]) b:=by
 subst h
 have h1:aB MD.P (eqGuard .eql 27 (.tmp 28) (.tmp 29) (.agg #[.bool false, .string u]) (.agg #[.bool false, .string v]))=some ():=by kernel_rfl
 have h2:=J8 u v
 rw [Bool.true_and] at h2
 show (aB MD.P ((eqGuard .eql 27 (.tmp 28) (.tmp 29) (.agg #[.bool false, .string u]) (.agg #[.bool false, .string v])).bind fun _=>binOp .eql 27 (.agg #[.bool false, .string u]) (.agg #[.bool false, .string v]))).bind hH=some (.lit (.bool (u==v)))
 rw [aV h1]
 show (aB MD.P ((Op.equalIn (9999+1) 27 (.agg #[.bool false, .string u]) (.agg #[.bool false, .string v])).bind fun r=> .pure (.bool r))).bind hH=some (.lit (.bool (u==v)))
 rw [aV h2];rfl
theorem Ib {g:Bool} {s:ByteArray} (h:cL g s=true):∃z:Int,z.natAbs=bR s∧g=decide (z<0)∧s=aH z.natAbs:=by
 unfold cL at h
 by_cases hz:s.size=0
 · rw [if_pos hz] at h
   have e:aY s=[]:=List.length_eq_zero_iff.1 (by rw [bW];exact hz)
   have hv:bR s=0:=by simp [bR,e,val]
   refine ⟨0,by rw [hv];rfl,by simpa using h, ?_⟩
   have:=l8 (s:=s) (.inl e)
   rw [hv] at this;exact this.symm
 · rw [if_neg hz] at h
   obtain ⟨n,hn⟩:∃n,s.size=n+1:=⟨s.size - 1,by omega⟩
   obtain ⟨b,hb,rG⟩:=jq hn
   rw [hb] at h
   have hb0:0<b.toNat:=by simp at h;omega
   have hm:=l8 (rO rG hb0)
   have hp:0<bR s:=by
    rw [bR,rG,jj]
    have:0<256^(aY (s.extract 1 s.size)).length* val 256 [b.toNat]:=Nat.mul_pos (Nat.pow_pos (by decide)) (by simp [val];exact hb0)
    omega
   cases g with
   |true=>exact ⟨-(bR s:Int),by omega,by simp;omega,by rw [show (-(bR s:Int)).natAbs=bR s by omega,hm]⟩
   |false=>exact ⟨(bR s:Int),by omega,by simp,by rw [show ((bR s:Int)).natAbs=bR s by omega,hm]⟩
end Go.Proofs.YtibbgjafjhcemaaDoor.Cul
namespace Go.Proofs.YtibbgjafjhcemaaDoor.Cul
open Go Go.RowKit
theorem nO:aP MD.P t14:=aO
 (au (aE fun x _=>ux x.1 x.2)
 (au (aE fun x _=>KY x.1 x.2)
 (au (aE fun x h=>EH x h)
 (au (aE fun n h=>Ck n h.1 h.2) aL))))
theorem um {a b:Nat} (h:aH a=aH b):a=b:=by
 have:=congrArg bR h
 rwa [jb,jb] at this
theorem beq_toList (u v:ByteArray):(u==v)=(u.data==v.data):=by cases u;cases v;rfl
theorem Ao (a b:Nat):(aH a==aH b)=decide (a=b):=by
 rw [beq_toList]
 by_cases h:a=b
 · subst h;simp
 · rw [decide_eq_false h]
   refine beq_false_of_ne (fun e=>h (um ?_))
   exact ByteArray.ext e
theorem vw {n:Nat} (h:(aH n).size=0):n=0:=by
 have h1:=ct (b:=256) (by decide) n
 have h2:(dg 256 n).length=0:=by rw [←dJ,bW,h]
 rw [List.length_eq_zero_iff.1 h2] at h1
 exact h1.symm
theorem GD (z:Int):oB (decide (z<0)) (aH z.natAbs)=if z<0 then -1 else if z=0 then 0 else 1:=by
 unfold oB
 rw [sZ,if_pos rfl]
 by_cases h0:z=0
 · subst h0;rfl
 · have hs:(aH z.natAbs).size≠0:=fun h=>h0 (by have:=vw h;omega)
   rw [if_neg hs]
   by_cases hn:z<0
   · simp [hn]
   · simp [hn,h0]
theorem CI (g:Bool) (s:ByteArray):D8 [iz g s]=some (one (iv (oB g s))):=
 bl (a:=(g,s)) (enc:=fun x:Bool×ByteArray=>[iz x.1 x.2]) (fun a b e=>by rw [FM e]) trivial
theorem xg {n:Int} (h1: -(2^63)≤n) (h2:n<2^63):Ic [iv n]=some (one (.ag (zc n))):=
 bl (enc:=fun n:Int=>[iv n]) (fun a b e=>by
  simp only [iv,List.cons.injEq,and_true,PV.lit.injEq,Value.int.injEq,true_and] at e;rw [e]) ⟨h1,h2⟩
theorem J4 {x:fF} (h:x.small):Lv [.ag (zc x.a++zc x.b++zc x.c++zc x.d), .ag (zc x.n)]=some (one (.ag (zc (x.gcd:Nat)))):=
 bl (enc:=fun x:fF=>[.ag (zc x.a++zc x.b++zc x.c++zc x.d), .ag (zc x.n)]) (fun p q e=>by
  obtain ⟨a,b,c,d,n⟩:=p
  obtain ⟨a',b',c',d',n'⟩:=q
  simp only [List.cons.injEq,and_true,PV.ag.injEq] at e
  obtain ⟨e1,e2⟩:=e
  have l:∀z:Int,(zc z).length=2:=fun _=>rfl
  have k1:=List.append_inj e1 (by simp [l])
  have k2:=List.append_inj k1.1 (by simp [l])
  have k3:=List.append_inj k2.1 (by simp [l])
  rw [kO k3.1,kO k3.2,kO k2.2,kO k1.2,kO e2]) h
def fF.ok (x:fF):Bool:=decide (0<x.n)&&decide (x.gcd=1)
def fF.cells (x:fF):List PV:=zc x.a++zc x.b++zc x.c++zc x.d++zc x.n
theorem E5 (x:fF) (h:x.small):aA P0 43 [.ag x.cells] (one (bv x.ok)):=by
 have vt:∀z:Int,gV [iz (decide (z<0)) (aH z.natAbs)]=some (one (bv true)):=fun z=>by rw [cO,sZ]
 have st:=CI (decide (x.n<0)) (aH x.n.natAbs)
 rw [GD] at st
 by_cases hn:0<x.n
 · rw [if_neg (by omega),if_neg (by omega)] at st
   have e:x.ok=decide (x.gcd=1):=by simp [fF.ok,hn]
   rw [e]
   have hq:=LI (Ao x.gcd 1)
   exact ai ah nO (by rfl) (VD 5 _ _ _ _ _ (decide (x.gcd=1)) _ _ _ _ _ (aH x.gcd) (aH 1) 1) ⟨by omega,rfl,vt x.a,rfl,vt x.b,rfl,vt x.c,rfl,vt x.d,rfl,vt x.n,st,rfl,J4 h,xg (by decide) (by decide),hq,trivial⟩
 · have e:x.ok=false:=by simp [fF.ok,hn]
   rw [e]
   exact ai ah nO (by rfl) (VC 5 _ _ _ _ _ _ _ _ _ _ _) ⟨by omega,rfl,vt x.a,rfl,vt x.b,rfl,vt x.c,rfl,vt x.d,rfl,vt x.n,st,by split<;>first|rfl|(split<;>first|rfl|omega),trivial⟩
theorem Dt (g0 g1 g2 g3 gd:Bool) (s0 s1 s2 s3 sd:ByteArray) (h:(cL g0 s0&&cL g1 s1&&cL g2 s2&&cL g3 s3&&cL gd sd)=false):aA P0 43 [.ag [bv g0,sv s0,bv g1,sv s1,bv g2,sv s2,bv g3,sv s3,bv gd,sv sd]] (one (bv false)):=by
 have v0:=cO g0 s0
 have v1:=cO g1 s1
 have v2:=cO g2 s2
 have v3:=cO g3 s3
 have vd:=cO gd sd
 cases h0:cL g0 s0 with
 |false=>rw [h0] at v0;exact ai ah nO (by rfl) (Vx 5 _ _ _ _ _ _ _ _ _ _) ⟨by omega,rfl,v0,trivial⟩
 |true=>
  rw [h0] at v0
  cases h1:cL g1 s1 with
  |false=>rw [h1] at v1;exact ai ah nO (by rfl) (Vy 5 _ _ _ _ _ _ _ _ _ _) ⟨by omega,rfl,v0,rfl,v1,trivial⟩
  |true=>
   rw [h1] at v1
   cases h2:cL g2 s2 with
   |false=>rw [h2] at v2;exact ai ah nO (by rfl) (Vz 5 _ _ _ _ _ _ _ _ _ _) ⟨by omega,rfl,v0,rfl,v1,rfl,v2,trivial⟩
   |true=>
    rw [h2] at v2
    cases h3:cL g3 s3 with
    |false=>rw [h3] at v3;exact ai ah nO (by rfl) (VA 5 _ _ _ _ _ _ _ _ _ _) ⟨by omega,rfl,v0,rfl,v1,rfl,v2,rfl,v3,trivial⟩
    |true=>
     rw [h3] at v3
     cases h4:cL gd sd with
     |false=>rw [h4] at vd;exact ai ah nO (by rfl) (VB 5 _ _ _ _ _ _ _ _ _ _) ⟨by omega,rfl,v0,rfl,v1,rfl,v2,rfl,v3,rfl,vd,trivial⟩
     |true=>rw [h0,h1,h2,h3,h4] at h;simp at h
end Go.Proofs.YtibbgjafjhcemaaDoor.Cul
namespace Go.Proofs.YtibbgjafjhcemaaDoor.Cul
open Go Go.RowKit
noncomputable def t16:Cl:=bQ [(58,gV)]
theorem Yu (k:Nat) (g:Bool) (s:ByteArray):ay MD t3 k 58 [iz g s] [.c true]=
 some (RV.mk (PV.lit (Value.bool !g)) none,[(s.toList==(ByteArray.mk #[]).toList)=true]):=by kernel_rfl
theorem Yv (k b:Nat) (g r:Bool) (s:ByteArray):ay MD t3 k 58 [iz g s] [.c false, .i 11 b, .c r]=
 some (RV.mk (PV.lit (Value.bool r)) none,[(s.toList==(ByteArray.mk #[]).toList)=false,fu s (0:Int) (↑b:Int),((↑b:Int) !=(0:Int))=r]):=by kernel_rfl
theorem Yq (k:Nat) (g:Bool) (s:ByteArray):ay MD t16 k 60 [iz g s] [.r (one (bv false))]=
 some (RV.mk (PV.lit (Value.int IntKind.i64 (0:Int))) none,[aa t16 58 [PV.ag [PV.lit (Value.bool g),PV.lit (Value.string s)]] (RV.mk (PV.lit (Value.bool false)) none)]):=by kernel_rfl
theorem Yr (k:Nat) (g:Bool) (s:ByteArray):ay MD t16 k 60 [iz g s] [.r (one (bv true)), .c true]=
 some (RV.mk (PV.lit (Value.int IntKind.i64 (0:Int))) none,[aa t16 58 [PV.ag [PV.lit (Value.bool g),PV.lit (Value.string s)]] (RV.mk (PV.lit (Value.bool true)) none),(s.toList==(ByteArray.mk #[]).toList)=true]):=by kernel_rfl
theorem Ys (k:Nat) (s:ByteArray):ay MD t16 k 60 [iz true s] [.r (one (bv true)), .c false]=
 some (RV.mk (PV.lit (Value.int IntKind.i64 (-1:Int))) none,[aa t16 58 [PV.ag [PV.lit (Value.bool true),PV.lit (Value.string s)]] (RV.mk (PV.lit (Value.bool true)) none),(s.toList==(ByteArray.mk #[]).toList)=false]):=by kernel_rfl
theorem Yt (k:Nat) (s:ByteArray):ay MD t16 k 60 [iz false s] [.r (one (bv true)), .c false]=
 some (RV.mk (PV.lit (Value.int IntKind.i64 (1:Int))) none,[aa t16 58 [PV.ag [PV.lit (Value.bool false),PV.lit (Value.string s)]] (RV.mk (PV.lit (Value.bool true)) none),(s.toList==(ByteArray.mk #[]).toList)=false]):=by kernel_rfl
theorem Yh (k:Nat) (g:Bool) (s:ByteArray):ay MD t16 k 55 [iz g s] [.r (one (bv false))]=
 some (RV.mk (PV.ag [PV.lit (Value.bool false),PV.lit (Value.string (ByteArray.mk #[]))]) none,[aa t16 58 [PV.ag [PV.lit (Value.bool g),PV.lit (Value.string s)]] (RV.mk (PV.lit (Value.bool false)) none)]):=by kernel_rfl
theorem Yi (k:Nat) (g:Bool) (s:ByteArray):ay MD t16 k 55 [iz g s] [.r (one (bv true)), .c true]=
 some (RV.mk (PV.ag [PV.lit (Value.bool false),PV.lit (Value.string (ByteArray.mk #[]))]) none,[aa t16 58 [PV.ag [PV.lit (Value.bool g),PV.lit (Value.string s)]] (RV.mk (PV.lit (Value.bool true)) none),(s.toList==(ByteArray.mk #[]).toList)=true]):=by kernel_rfl
theorem Yj (k:Nat) (g:Bool) (s:ByteArray):ay MD t16 k 55 [iz g s] [.r (one (bv true)), .c false]=
 some (RV.mk (PV.ag [PV.lit (Value.bool !g),PV.lit (Value.string s)]) none,[aa t16 58 [PV.ag [PV.lit (Value.bool g),PV.lit (Value.string s)]] (RV.mk (PV.lit (Value.bool true)) none),(s.toList==(ByteArray.mk #[]).toList)=false]):=by kernel_rfl
theorem jX (g:Bool) (s:ByteArray):aA P0 58 [iz g s] (one (bv (cL g s))):=by
 by_cases h:s.size=0
 · have:=ai ah kL (by rfl) (Yu 1 g s) ⟨by rw [cS];simpa using h,trivial⟩
   simp only [cL,h,if_true]
   exact this
 · obtain ⟨n,hn⟩:∃n,s.size=n+1:=⟨s.size - 1,by omega⟩
   obtain ⟨b,hb,_⟩:=jq hn
   have e:cL g s=decide (b.toNat≠0):=by
    simp only [cL,h,if_false,hb,Option.map_some,ne_eq,Option.some.injEq]
   rw [e]
   refine ai ah kL (by rfl) (Yv 1 b.toNat g (decide (b.toNat≠0)) s) ⟨by rw [cS];simpa using h,mj hb, ?_,trivial⟩
   by_cases h0:b.toNat=0
   · simp [h0]
   · simp [h0]
theorem nP:aP MD.P t16:=aO (au (aE fun x _=>jX x.1 x.2) aL)
theorem Iy (g:Bool) (s:ByteArray):aA P0 60 [iz g s] (one (iv (oB g s))):=by
 have v:=cO g s
 unfold oB
 cases h:cL g s with
 |false=>rw [h] at v;exact ai ah nP (by rfl) (Yq 1 g s) ⟨v,trivial⟩
 |true=>
  rw [h] at v
  by_cases hz:s.size=0
  · have:=ai ah nP (by rfl) (Yr 1 g s) ⟨v,by rw [cS];simpa using hz,trivial⟩
    simp only [hz,if_true];exact this
  · simp only [hz,if_true,if_false]
    cases g with
    |true=>exact ai ah nP (by rfl) (Ys 1 s) ⟨v,by rw [cS];simpa using hz,trivial⟩
    |false=>exact ai ah nP (by rfl) (Yt 1 s) ⟨v,by rw [cS];simpa using hz,trivial⟩
theorem KR (g:Bool) (s:ByteArray):aA P0 55 [iz g s] (one (uq g s)):=by
 have v:=cO g s
 unfold uq
 cases h:cL g s with
 |false=>rw [h] at v;exact ai ah nP (by rfl) (Yh 1 g s) ⟨v,trivial⟩
 |true=>
  rw [h] at v
  by_cases hz:s.size=0
  · have:=ai ah nP (by rfl) (Yi 1 g s) ⟨v,by rw [cS];simpa using hz,trivial⟩
    have hs:s=⟨#[]⟩:=uK (by
     have e:aY s=[]:=List.length_eq_zero_iff.1 (by rw [bW];exact hz)
     rw [e];rfl)
    have e:iz (!g&& !decide (s.size=0)) s=iz false ⟨#[]⟩:=by rw [show decide (s.size=0)=true by simpa using hz,hs];cases g<;>rfl
    rw [if_pos rfl,e];exact this
  · have:=ai ah nP (by rfl) (Yj 1 g s) ⟨v,by rw [cS];simpa using hz,trivial⟩
    have e:iz (!g&& !decide (s.size=0)) s=iz (!g) s:=by simp [hz]
    rw [if_pos rfl,e];exact this
end Go.Proofs.YtibbgjafjhcemaaDoor.Cul
namespace Go.Proofs.YtibbgjafjhcemaaDoor.Cul
theorem uW {b:Nat} (hb:2≤b):∀{n v:Nat},v<b^n→fd b n v=dg b v++List.replicate (n - (dg b v).length) 0
 |0,v,h=>by
  have:v=0:=by simpa using h
  subst this;simp [fd,eB]
 |n+1,v,h=>by
  rcases Nat.eq_zero_or_pos v with rfl|hv
  · rw [wT (by omega),eB];simp
  · have h2:v / b<b^n:=by
      rw [Nat.div_lt_iff_lt_mul (by omega)];rwa [Nat.pow_succ] at h
    rw [dK hb hv]
    show v%b::fd b n (v / b)=_
    rw [uW hb h2]
    simp
theorem mz {x:Nat} (hx:x%2=1) (k y:Nat):Nat.gcd x (2^k* y)=Nat.gcd x y:=by
 have h2:Nat.Coprime 2 x:=by
  show Nat.gcd 2 x=1
  rw [Nat.gcd_rec,hx];rfl
 exact Nat.Coprime.gcd_mul_left_cancel_right y (h2.pow_left k)
theorem zH {x:Nat} (hx:x%2=1) (k y:Nat):Nat.gcd (2^k* y) x=Nat.gcd y x:=by
 rw [Nat.gcd_comm,mz hx,Nat.gcd_comm]
theorem HH {x y:Nat} (hx:x%2=1) (hy:y%2=1) (n m:Nat):Nat.gcd (2^n* x) (2^m* y)=2^(min n m)* Nat.gcd x y:=by
 rcases Nat.le_total n m with h|h
 · obtain ⟨d,rfl⟩:=Nat.exists_eq_add_of_le h
   rw [Nat.min_eq_left h,Nat.pow_add,Nat.mul_assoc,Nat.gcd_mul_left,mz hx]
 · obtain ⟨d,rfl⟩:=Nat.exists_eq_add_of_le h
   rw [Nat.min_eq_right h,Nat.pow_add,Nat.mul_assoc,Nat.gcd_mul_left,zH hy]
def wF:Nat→Nat→Nat
 |0,_=>0
 |f+1,n=>if n%2=0 then wF f (n / 2)+1 else 0
def tz (n:Nat):Nat:=wF n n
theorem Be:∀{f n:Nat},0<n→n≤f→(n / 2^wF f n)%2=1∧2^wF f n* (n / 2^wF f n)=n
 |0,n,h,k=>by omega
 |f+1,n,h,k=>by
  unfold wF
  by_cases e:n%2=0
  · rw [if_pos e]
    obtain ⟨h1,h2⟩:=Be (f:=f) (n:=n / 2) (by omega) (by omega)
    have e2:n / 2^(wF f (n / 2)+1)=n / 2 / 2^wF f (n / 2):=by
     rw [Nat.pow_succ,Nat.mul_comm,Nat.div_div_eq_div_mul]
    rw [e2]
    refine ⟨h1, ?_⟩
    rw [Nat.pow_succ,Nat.mul_comm (2^wF f (n / 2)) 2,Nat.mul_assoc,h2];omega
  · rw [if_neg e];simp;omega
def od (n:Nat):Nat:=n / 2^tz n
theorem jw {n:Nat} (h:0<n):od n%2=1:=(Be h (Nat.le_refl n)).1
theorem vF {n:Nat} (h:0<n):2^tz n* od n=n:=(Be h (Nat.le_refl n)).2
theorem Nx {n:Nat} (h:0<n):0<od n:=by have:=jw h;omega
theorem sU {n:Nat} (h:0<n):od n≤n:=Nat.div_le_self _ _
theorem zG {x y:Nat} (hx:x%2=1) (hy:0<y):Nat.gcd x (od y)=Nat.gcd x y:=by
 conv=>rhs;rw [←vF hy]
 exact (mz hx _ _).symm
theorem p7 {x y:Nat} (hx:x%2=1) (h:x<y):Nat.gcd x (od (y - x))=Nat.gcd x y:=by
 rw [zG hx (by omega)]
 exact Nat.gcd_sub_self_right (by omega)
theorem Kg {x y:Nat} (hx:0<x) (hy:0<y):Nat.gcd x y=2^(min (tz x) (tz y))* Nat.gcd (od x) (od y):=by
 conv=>lhs;rw [←vF hx,←vF hy]
 exact HH (jw hx) (jw hy) _ _
def shr (k:Nat):List Nat→List Nat
 |[]=>[]
 |[x]=>[x / 2^k]
 |x::y::l=>(x / 2^k+y* 2^(24 - k)%2^24)::shr k (y::l)
theorem gU (k:Nat):∀l,(shr k l).length=l.length
 |[]=>rfl
 |[x]=>rfl
 |x::y::l=>by simp [shr,gU k (y::l)]
theorem CK {k y:Nat} (hk:k≤24):y* 2^(24 - k)%2^24=y%2^k* 2^(24 - k):=by
 have e:(2:Nat)^24=2^k* 2^(24 - k):=by rw [←Nat.pow_add];congr 1;omega
 rw [e,Nat.mul_mod_mul_right]
theorem CN {k:Nat} (hk:k≤24):∀(x:Nat) (l:List Nat),2^k* val (2^24) (shr k (x::l))+x%2^k=val (2^24) (x::l)
 |x,[]=>by simp only [shr,val];have:=Nat.div_add_mod x (2^k);omega
 |x,y::l=>by
  have ih:=CN hk y l
  simp only [shr]
  rw [CK hk]
  have e:(2:Nat)^24=2^k* 2^(24 - k):=by rw [←Nat.pow_add];congr 1;omega
  have h1:=Nat.div_add_mod x (2^k)
  show 2^k* (x / 2^k+y%2^k* 2^(24 - k)+2^24* val (2^24) (shr k (y::l)))+x%2^k=x+2^24* val (2^24) (y::l)
  rw [←ih,Nat.mul_add,Nat.mul_add,Nat.mul_add]
  have h2:2^k* (y%2^k* 2^(24 - k))=2^24* (y%2^k):=by rw [e,Nat.mul_comm (y%2^k),Nat.mul_assoc]
  have h3:2^k* (2^24* val (2^24) (shr k (y::l)))=2^24* (2^k* val (2^24) (shr k (y::l))):=Nat.mul_left_comm _ _ _
  rw [h2,h3];omega
theorem CL {k:Nat} (hk:k≤24):∀{l:List Nat},bB (2^24) l→bB (2^24) (shr k l)
 |[],_=>by simp [shr,bB]
 |[x],h=>by
  intro z hz
  simp only [shr,List.mem_singleton] at hz
  subst hz
  exact Nat.lt_of_le_of_lt (Nat.div_le_self _ _) h.head
 |x::y::l,h=>by
  intro z hz
  simp only [shr,List.mem_cons] at hz
  rcases hz with rfl|hz
  · rw [CK hk]
    have hx:=h.head
    have e:(2:Nat)^24=2^(24 - k)* 2^k:=by rw [←Nat.pow_add];congr 1;omega
    have h1:x / 2^k<2^(24 - k):=by
     rw [Nat.div_lt_iff_lt_mul (Nat.pow_pos (by omega)),←e];exact hx
    have h2:y%2^k<2^k:=Nat.mod_lt _ (Nat.pow_pos (by omega))
    have h3:(y%2^k+1)* 2^(24 - k)≤2^k* 2^(24 - k):=Nat.mul_le_mul_right _ h2
    rw [Nat.add_mul,Nat.mul_comm (2^k),←e] at h3
    omega
  · exact CL hk h.tail z hz
theorem CM {k:Nat}:∀{l:List Nat} {i x:Nat},l[i]? =some x→(shr k l)[i]? =some (x / 2^k+(match l[i+1]? with|some y=>y* 2^(24 - k)%2^24|none=>0))
 |[],i,x,h=>by simp at h
 |[z],0,x,h=>by simp at h;subst h;simp [shr]
 |[z],i+1,x,h=>by simp at h
 |z::y::l,0,x,h=>by simp at h;subst h;simp [shr]
 |z::y::l,i+1,x,h=>by
  simp only [shr,List.getElem?_cons_succ] at h ⊢
  exact CM h
end Go.Proofs.YtibbgjafjhcemaaDoor.Cul
namespace Go.Proofs.YtibbgjafjhcemaaDoor.Cul
open Go Go.RowKit
section
variable {c:Nat→PV}
theorem Pj {l:List Nat} {i x:Nat} (h:l[i]? =some x):row (l.map c) 1 i=[c x]:=by
 have hi:=gK h
 have:(l.map c)[i]? =some (c x):=by simp [h]
 simp only [row,Nat.mul_one]
 rw [List.drop_eq_getElem_cons (by simpa using hi),List.take_succ_cons,List.take_zero]
 congr 1
 simpa [List.getElem?_eq_getElem (show i<(l.map c).length by simpa using hi)] using this
theorem jW {l:List Nat} {i x:Nat} {n:Int} (h:l[i]? =some x) (hn:n=(i:Int)):az (l.map c) 1 n l.length [c x]:=by
 have hi:=gK h
 subst hn
 exact ⟨⟨by omega,by omega⟩,by rw [Int.toNat_natCast];exact Pj h⟩
theorem pq (l:List Nat) (a n:Nat) {m:List Nat} (h:(l.drop a).take n=m):de (l.map c) a n (m.map c):=by
 show ((l.map c).drop a).take n=m.map c
 rw [←List.map_drop,←List.map_take,h]
theorem Nb {P:Program} {T:TypeId} (hs:bV P T=some 1) (hr:ep P T=false) (hu:(P.underlying T).isSome=true) {l:List Nat} {o i x:Nat} (h:l[i]? =some x) (ho:o=i):Ld P T (l.map c) o (c x):=by
 subst ho
 have:=gK h
 show dZ P T (l.map c) o=some (c x)
 simp only [dZ,hs,Option.bind_some,hr,hu]
 rw [if_pos (by rw [List.length_map];omega)]
 simp [h]
theorem mN {l m:List Nat} {o i y:Nat} (h:l.set i y=m) (hi:i<l.length) (ho:o=i):ck (l.map c) o [c y] (m.map c):=by
 subst ho h
 show splice (l.map c) o [c y]=(l.set o y).map c
 simp only [splice,List.map_set,List.length_singleton]
 rw [List.set_eq_take_append_cons_drop,if_pos (by simpa using hi),List.append_assoc];rfl
theorem lE {n:Nat}:iE [c 0] n ((List.replicate n 0).map c):=by
 show bh _ n=_
 induction n with
 |zero=>rfl
 |succ n ih=>simp only [bh,List.replicate_succ,List.map_cons] at ih ⊢;rw [ih];rfl
theorem Nh (h:∀x,bS (c x)=true) (l:List Nat):(l.map c).all bS=true:=by
 rw [List.all_map,List.all_eq_true];intro x _;exact h x
end
def aJ (x:Nat):PV:=iv x
def ni (l:List Nat):PV:= .sl 1 l.length (l.map aJ)
theorem JI:bV MD.P 3=some 1:=by kernel_rfl
theorem NS:ep MD.P 3=false:=by kernel_rfl
theorem OG:(MD.P.underlying 3).isSome=true:=by kernel_rfl
theorem EA:MD.P.bytesOf 3=8:=by kernel_rfl
theorem Pp:bV MD.P 5=some 1:=by kernel_rfl
theorem Tv:ep MD.P 5=false:=by kernel_rfl
theorem Ug:(MD.P.underlying 5).isSome=true:=by kernel_rfl
theorem EB:MD.P.bytesOf 5=1:=by kernel_rfl
theorem qd {l:List Nat} {o i x:Nat} (h:l[i]? =some x) (ho:o=i):Ld MD.P 3 (l.map aJ) o (aJ x):=Nb JI NS OG h ho
theorem DH {l:List Nat} {o i x:Nat} (h:l[i]? =some x) (ho:o=i):Ld MD.P 5 (l.map bt) o (bt x):=Nb Pp Tv Ug h ho
theorem uj {l m:List Nat} (h:l.map aJ=m.map aJ):l=m:=by
 refine (List.map_inj_right ?_).1 h
 intro x y e
 simp only [aJ,iv,PV.lit.injEq,Value.int.injEq,true_and] at e;omega
theorem rU {l m:List Nat} (h:ni l=ni m):l=m:=by
 simp only [ni,PV.sl.injEq] at h
 exact uj h.2.2
theorem di {a b:Int} (h:iv a=iv b):a=b:=by simpa [iv] using h
theorem Ez {a b:Bool} (h:bv a=bv b):a=b:=by simpa [bv] using h
theorem pU {a b:Nat} (h:dg (16777216:Nat) a=dg (16777216:Nat) b):a=b:=by
 have:=congrArg (val (16777216:Nat)) h
 rwa [ct (by decide),ct (by decide)] at this
theorem A4 {x r:Nat} {k:Int} (hk:k=(r:Int)) (hr:r<64):(x:Int).fdiv (2^min k.toNat IntKind.i64.bits)=((x / 2^r:Nat):Int):=by
 subst hk
 have e:min ((r:Int).toNat) IntKind.i64.bits=r:=by rw [Int.toNat_natCast];show min r 64=r;omega
 rw [e,Int.fdiv_eq_ediv_of_nonneg _ (by exact_mod_cast Nat.zero_le _)]
 norm_cast
theorem PN (a:Nat):IntKind.u8.wrap (a:Int)=((a%256:Nat):Int):=by
 unfold IntKind.wrap IntKind.bits IntKind.signed
 simp only
 have e1:(2:Int)^8=256:=by decide
 rw [e1];simp
end Go.Proofs.YtibbgjafjhcemaaDoor.Cul
namespace Go.Proofs.YtibbgjafjhcemaaDoor.Cul
open Go Go.RowKit
noncomputable def t17:Cl:=bQ []
theorem ZM (k n m:Nat) (cs ds es fs:List PV) (s:ByteArray) (o:Nat):ay MD t17 k 89 [.sl 1 n cs] [.i 7 (3* n:Nat), .c false, .f ds, .l (.exit 0) ⟨[(0, .pv (.sl 1 n cs)),(3, .bs 8 0 1 (3* n)),(4, .pv (iv (3* n:Nat))),(12, .pv (bv false))],[(8,es)],[],[]⟩, .l (.exit 2) ⟨[(3, .bs 8 0 1 m),(40, .pv (bv false))],[(8,es)],[],[]⟩, .f fs, .w 44 s]=
 some (RV.mk (PV.lit (Value.string s)) none,[IntKind.i64.wrap ((3:Int)* (↑n:Int))=(↑((3:Nat)* n):Int),(0:Int)≤(↑((3:Nat)* n):Int)∧(↑((3:Nat)* n):Int)≤(↑((3:Nat)* n):Int)∧(↑((3:Nat)* n):Int)* (↑(MD.P.bytesOf (5:Nat)):Int)≤(↑room:Int)∧(↑((3:Nat)* n):Int)≤(↑room:Int),decide ((↑((3:Nat)* n):Int)=(0:Int))=false,iE [PV.lit (Value.int IntKind.u8 (0:Int))] (↑((3:Nat)* n):Int).toNat ds,aN MD t17 k (89:Nat) (0:Nat) (St.mk [(0,AV.pv (PV.sl 1 n cs)),(3,AV.bs 8 0 1 (↑((3:Nat)* n):Int).toNat),(4,AV.pv (PV.lit (Value.int IntKind.i64 (0:Int))))] [(8,ds)] [] []) (Xt.exit 0) (St.mk [(0,AV.pv (PV.sl 1 n cs)),(3,AV.bs 8 0 1 ((3:Nat)* n)),(4,AV.pv (PV.lit (Value.int IntKind.i64 (↑((3:Nat)* n):Int)))),(12,AV.pv (PV.lit (Value.bool false)))] [(8,es)] [] []),aN MD t17 k (89:Nat) (1:Nat) (St.mk [(0,AV.pv (PV.sl 1 n cs)),(3,AV.bs 8 0 1 ((3:Nat)* n)),(4,AV.pv (PV.lit (Value.int IntKind.i64 (↑((3:Nat)* n):Int)))),(12,AV.pv (PV.lit (Value.bool false)))] [(8,es)] [] []) (Xt.exit 2) (St.mk [(3,AV.bs 8 0 1 m),(40,AV.pv (PV.lit (Value.bool false)))] [(8,es)] [] []),de es 0 (m* (1:Nat)) fs,kU fs s]):=by kernel_rfl
theorem ZN (k n m:Nat) (cs ds es fs:List PV) (s:ByteArray) (o:Nat):ay MD t17 k 89 [.sl 1 n cs] [.i 7 (3* n:Nat), .c false, .f ds, .l (.exit 0) ⟨[(0, .pv (.sl 1 n cs)),(3, .bs 8 0 1 (3* n)),(4, .pv (iv (3* n:Nat))),(12, .pv (bv false))],[(8,es)],[],[]⟩, .l (.exit 2) ⟨[(3, .bs 8 (o+1) 1 m),(40, .pv (bv false))],[(8,es)],[],[]⟩, .f fs, .w 44 s]=
 some (RV.mk (PV.lit (Value.string s)) none,[IntKind.i64.wrap ((3:Int)* (↑n:Int))=(↑((3:Nat)* n):Int),(0:Int)≤(↑((3:Nat)* n):Int)∧(↑((3:Nat)* n):Int)≤(↑((3:Nat)* n):Int)∧(↑((3:Nat)* n):Int)* (↑(MD.P.bytesOf (5:Nat)):Int)≤(↑room:Int)∧(↑((3:Nat)* n):Int)≤(↑room:Int),decide ((↑((3:Nat)* n):Int)=(0:Int))=false,iE [PV.lit (Value.int IntKind.u8 (0:Int))] (↑((3:Nat)* n):Int).toNat ds,aN MD t17 k (89:Nat) (0:Nat) (St.mk [(0,AV.pv (PV.sl 1 n cs)),(3,AV.bs 8 0 1 (↑((3:Nat)* n):Int).toNat),(4,AV.pv (PV.lit (Value.int IntKind.i64 (0:Int))))] [(8,ds)] [] []) (Xt.exit 0) (St.mk [(0,AV.pv (PV.sl 1 n cs)),(3,AV.bs 8 0 1 ((3:Nat)* n)),(4,AV.pv (PV.lit (Value.int IntKind.i64 (↑((3:Nat)* n):Int)))),(12,AV.pv (PV.lit (Value.bool false)))] [(8,es)] [] []),aN MD t17 k (89:Nat) (1:Nat) (St.mk [(0,AV.pv (PV.sl 1 n cs)),(3,AV.bs 8 0 1 ((3:Nat)* n)),(4,AV.pv (PV.lit (Value.int IntKind.i64 (↑((3:Nat)* n):Int)))),(12,AV.pv (PV.lit (Value.bool false)))] [(8,es)] [] []) (Xt.exit 2) (St.mk [(3,AV.bs 8 (o+(1:Nat)) 1 m),(40,AV.pv (PV.lit (Value.bool false)))] [(8,es)] [] []),de es (o+(1:Nat)) (m* (1:Nat)) fs,kU fs s]):=by kernel_rfl
theorem ZO (k n i x y z:Nat) (cs es es':List PV):ak MD t17 k 89 0 ⟨[(0, .pv (.sl 1 n cs)),(3, .bs 8 0 1 (3* n)),(4, .pv (iv i))],[(8,es)],[],[]⟩ [.c true, .i 18 (3* n - 1:Nat), .i 20 (3* n - 1 - i:Nat), .i 23 (i / 3:Nat), .a 24 [iv x], .i 27 (i%3:Nat), .i 28 (8* (i%3):Nat), .i 29 y, .i 30 z, .j 31 (3* n - 1 - i), .s es', .i 14 (i+1:Nat)]=
 some ((Xt.normal,St.mk [(0,AV.pv (PV.sl 1 n cs)),(3,AV.bs 8 0 1 ((3:Nat)* n)),(4,AV.pv (PV.lit (Value.int IntKind.i64 (↑(i+(1:Nat)):Int))))] [(8,es')] [] []),[],[decide ((↑i:Int)<(↑((3:Nat)* n):Int))=true,IntKind.i64.wrap ((↑((3:Nat)* n):Int) - (1:Int))=(↑((3:Nat)* n - (1:Nat)):Int),IntKind.i64.wrap ((↑((3:Nat)* n - (1:Nat)):Int) - (↑i:Int))=(↑((3:Nat)* n - (1:Nat) - i):Int),IntKind.i64.wrap ((↑i:Int).tdiv (3:Int))=(↑(i / (3:Nat)):Int),false=false,az cs 1 (↑(i / (3:Nat)):Int) n [PV.lit (Value.int IntKind.i64 (↑x:Int))],(↑i:Int).tmod (3:Int)=(↑(i%(3:Nat)):Int),false=false,IntKind.i64.wrap ((8:Int)* (↑(i%(3:Nat)):Int))=(↑((8:Nat)* (i%(3:Nat))):Int),(↑x:Int).fdiv ((2:Int)^min (↑((8:Nat)* (i%(3:Nat))):Int).toNat IntKind.i64.bits)=(↑y:Int),decide ((↑((8:Nat)* (i%(3:Nat))):Int)<(0:Int))=false,IntKind.u8.wrap (↑y:Int)=(↑z:Int),aG (↑((3:Nat)* n - (1:Nat) - i):Int) ((3:Nat)* n) ((3:Nat)* n - (1:Nat) - i),(0:Nat)+((3:Nat)* n - (1:Nat) - i)* (1:Nat)+(PV.lit (Value.int IntKind.u8 (↑z:Int))).cells.length≤es.length,ck es ((0:Nat)+((3:Nat)* n - (1:Nat) - i)* (1:Nat)) [PV.lit (Value.int IntKind.u8 (↑z:Int))] es',IntKind.i64.wrap ((↑i:Int)+(1:Int))=(↑(i+(1:Nat)):Int)]):=by kernel_rfl
theorem ZP (k n i:Nat) (cs es:List PV):ak MD t17 k 89 0 ⟨[(0, .pv (.sl 1 n cs)),(3, .bs 8 0 1 (3* n)),(4, .pv (iv i))],[(8,es)],[],[]⟩ [.c false]=
 some ((Xt.exit 0,St.mk [(0,AV.pv (PV.sl 1 n cs)),(3,AV.bs 8 0 1 ((3:Nat)* n)),(4,AV.pv (PV.lit (Value.int IntKind.i64 (↑i:Int)))),(12,AV.pv (PV.lit (Value.bool false)))] [(8,es)] [] []),[],[decide ((↑i:Int)<(↑((3:Nat)* n):Int))=false]):=by kernel_rfl
theorem ZQ (k o m:Nat) (es:List PV):ak MD t17 k 89 1 ⟨[(3, .bs 8 o 1 m)],[(8,es)],[],[]⟩ [.c false]=
 some ((Xt.exit 2,St.mk [(3,AV.bs 8 o 1 m),(40,AV.pv (PV.lit (Value.bool false)))] [(8,es)] [] []),[],[decide ((↑m:Int)>(0:Int))=false]):=by kernel_rfl
theorem ZR (k o m x:Nat) (es:List PV):ak MD t17 k 89 1 ⟨[(3, .bs 8 o 1 m)],[(8,es)],[],[]⟩ [.c true, .j 37 0, .e 38 (bt x), .c false]=
 some ((Xt.exit 2,St.mk [(3,AV.bs 8 o 1 m),(40,AV.pv (PV.lit (Value.bool false)))] [(8,es)] [] []),[],[decide ((↑m:Int)>(0:Int))=true,aG (0:Int) m 0,Ld MD.P 5 es o (PV.lit (Value.int IntKind.u8 (↑x:Int))),((↑x:Int)==(0:Int))=false]):=by kernel_rfl
theorem ZS (k o m x:Nat) (es:List PV):ak MD t17 k 89 1 ⟨[(3, .bs 8 o 1 m)],[(8,es)],[],[]⟩ [.c true, .j 37 0, .e 38 (bt x), .c true, .o 42 (o+1) (m - 1)]=
 some ((Xt.normal,St.mk [(3,AV.bs 8 (o+(1:Nat)) 1 (m - (1:Nat)))] [(8,es)] [] []),[],[decide ((↑m:Int)>(0:Int))=true,aG (0:Int) m 0,Ld MD.P 5 es o (PV.lit (Value.int IntKind.u8 (↑x:Int))),((↑x:Int)==(0:Int))=true,(0:Int)≤(1:Int)∧(1:Int)≤(↑m:Int)∧(↑m:Int)≤(↑m:Int),o+Int.toNat (1:Int)* (1:Nat)=o+(1:Nat),(↑m:Int).toNat - Int.toNat (1:Int)=m - (1:Nat)]):=by kernel_rfl
theorem ZT (k o m:Nat) (p q r:PV) (es:List PV):ak MD t17 k 89 1 ⟨[(0, .pv p),(3, .bs 8 o 1 m),(4, .pv q),(12, .pv r)],[(8,es)],[],[]⟩ [.c false]=
 some ((Xt.exit 2,St.mk [(3,AV.bs 8 o 1 m),(40,AV.pv (PV.lit (Value.bool false)))] [(8,es)] [] []),[],[decide ((↑m:Int)>(0:Int))=false]):=by kernel_rfl
theorem ZU (k o m x:Nat) (p q r:PV) (es:List PV):ak MD t17 k 89 1 ⟨[(0, .pv p),(3, .bs 8 o 1 m),(4, .pv q),(12, .pv r)],[(8,es)],[],[]⟩ [.c true, .j 37 0, .e 38 (bt x), .c false]=
 some ((Xt.exit 2,St.mk [(3,AV.bs 8 o 1 m),(40,AV.pv (PV.lit (Value.bool false)))] [(8,es)] [] []),[],[decide ((↑m:Int)>(0:Int))=true,aG (0:Int) m 0,Ld MD.P 5 es o (PV.lit (Value.int IntKind.u8 (↑x:Int))),((↑x:Int)==(0:Int))=false]):=by kernel_rfl
theorem ZV (k o m x:Nat) (p q r:PV) (es:List PV):ak MD t17 k 89 1 ⟨[(0, .pv p),(3, .bs 8 o 1 m),(4, .pv q),(12, .pv r)],[(8,es)],[],[]⟩ [.c true, .j 37 0, .e 38 (bt x), .c true, .o 42 (o+1) (m - 1)]=
 some ((Xt.normal,St.mk [(3,AV.bs 8 (o+(1:Nat)) 1 (m - (1:Nat)))] [(8,es)] [] []),[],[decide ((↑m:Int)>(0:Int))=true,aG (0:Int) m 0,Ld MD.P 5 es o (PV.lit (Value.int IntKind.u8 (↑x:Int))),((↑x:Int)==(0:Int))=true,(0:Int)≤(1:Int)∧(1:Int)≤(↑m:Int)∧(↑m:Int)≤(↑m:Int),o+Int.toNat (1:Int)* (1:Nat)=o+(1:Nat),(↑m:Int).toNat - Int.toNat (1:Int)=m - (1:Nat)]):=by kernel_rfl
theorem ZW (k:Nat) (s:ByteArray):ay MD t17 k 89 [.sl 1 0 []] [.i 7 0, .c true, .u 1, .c false, .u 1, .c false, .w 44 s]=
 some (RV.mk (PV.lit (Value.string s)) none,[(0:Int)=(0:Int),(0:Int)≤(0:Int)∧(0:Int)≤(0:Int)∧(0:Int)* (↑(MD.P.bytesOf (5:Nat)):Int)≤(↑room:Int)∧(0:Int)≤(↑room:Int),true=true,(1:Nat)≤k,false=false,(1:Nat)≤k,false=false,kU [] s]):=by kernel_rfl
theorem J2 (v i:Nat):(v / (16777216:Nat)^(i / 3)%(16777216:Nat)) / 2^(8* (i%3))%256=v / 256^i%256:=by
 have hr:i%3<3:=Nat.mod_lt _ (by decide)
 have e1:(16777216:Nat)^(i / 3)=2^(24* (i / 3)):=by rw [Nat.pow_mul]
 have e2:256^i=2^(24* (i / 3))* 2^(8* (i%3)):=by
  rw [←Nat.pow_add,show (256:Nat)=2^8 by decide,←Nat.pow_mul];congr 1;omega
 have e3:(16777216:Nat)=2^(8* (i%3))* 2^(24 - 8* (i%3)):=by
  rw [←Nat.pow_add,show 8* (i%3)+(24 - 8* (i%3))=24 by omega]
 rw [e1,e2,←Nat.div_div_eq_div_mul]
 generalize v / 2^(24* (i / 3))=u
 rw [e3,Nat.mod_mul_right_div_self]
 refine Nat.mod_mod_of_dvd _ ?_
 rw [show (256:Nat)=2^8 by decide]
 exact Nat.pow_dvd_pow 2 (by omega)
def es (N v i:Nat):List Nat:=(List.range N).map fun p=>if N - 1 - p<i then v / 256^(N - 1 - p)%256 else 0
theorem ng (N v i:Nat):(es N v i).length=N:=by simp [es]
theorem uT {N v i p:Nat} (h:p<N):(es N v i)[p]? =some (if N - 1 - p<i then v / 256^(N - 1 - p)%256 else 0):=by
 simp [es,h]
theorem Kc (N v:Nat):es N v 0=List.replicate N 0:=by
 apply List.ext_getElem?
 intro p
 by_cases h:p<N
 · rw [uT h];simp [h]
 · rw [List.getElem?_eq_none (by rw [ng];omega),List.getElem?_eq_none (by simp;omega)]
theorem Kb {N v i:Nat} (h:i<N):(es N v i).set (N - 1 - i) (v / 256^i%256)=es N v (i+1):=by
 apply List.ext_getElem?
 intro p
 by_cases hp:p<N
 · rw [List.getElem?_set,uT hp,uT hp,ng]
   by_cases e:N - 1 - i=p
   · have:N - 1 - p=i:=by omega
     rw [if_pos e,if_pos (by omega),this,if_pos (by omega)]
   · rw [if_neg e]
     have:N - 1 - p<i↔N - 1 - p<i+1:=by omega
     simp only [this]
 · rw [List.getElem?_eq_none (by rw [List.length_set,ng];omega),List.getElem?_eq_none (by rw [ng];omega)]
theorem LL (N v:Nat):es N v N=(fd 256 N v).reverse:=by
 apply List.ext_getElem?
 intro p
 by_cases hp:p<N
 · rw [uT hp,if_pos (by omega),List.getElem?_reverse (by rw [cn];exact hp),cn,ij (by omega)]
 · rw [List.getElem?_eq_none (by rw [ng];omega),List.getElem?_eq_none (by simp [cn];omega)]
theorem IT (k i n v:Nat) (hi:i<3* n) (hn:n<2^40):aI MD t17 k 89 0 ⟨[(0, .pv (ni (fd (16777216:Nat) n v))),(3, .bs 8 0 1 (3* n)),(4, .pv (iv i))],[(8,(es (3* n) v i).map bt)],[],[]⟩=some (.normal,⟨[(0, .pv (ni (fd (16777216:Nat) n v))),(3, .bs 8 0 1 (3* n)),(4, .pv (iv (i+1:Nat)))],[(8,(es (3* n) v (i+1)).map bt)],[],[]⟩):=by
 have hx:(fd (16777216:Nat) n v)[i / 3]? =some (v / (16777216:Nat)^(i / 3)%(16777216:Nat)):=ij (by omega)
 have hr:=jW (c:=aJ) hx (n:=((i / 3:Nat):Int)) rfl
 have hl:(fd (16777216:Nat) n v).length=n:=cn _ _ _
 have hxl:v / (16777216:Nat)^(i / 3)%(16777216:Nat)<(16777216:Nat):=Nat.mod_lt _ (by decide)
 have key:=ZO k n i (v / (16777216:Nat)^(i / 3)%(16777216:Nat)) ((v / (16777216:Nat)^(i / 3)%(16777216:Nat)) / 2^(8* (i%3))) (v / 256^i%256) ((fd (16777216:Nat) n v).map aJ) ((es (3* n) v i).map bt) ((es (3* n) v (i+1)).map bt)
 simp only [ni,hl] at hr ⊢
 have h1:IntKind.i64.wrap ((i:Int).tdiv 3)=((i / 3:Nat):Int):=bn (ia i 3) (by omega)
 have h2:(i:Int).tmod 3=((i%3:Nat):Int):=fy i 3
 have h3:=A4 (x:=v / (16777216:Nat)^(i / 3)%(16777216:Nat)) (r:=8* (i%3)) (k:=((8* (i%3):Nat):Int)) rfl (by omega)
 have h4:IntKind.u8.wrap (((v / (16777216:Nat)^(i / 3)%(16777216:Nat)) / 2^(8* (i%3)):Nat):Int)=((v / 256^i%256:Nat):Int):=by rw [←J2];exact PN _
 have h5:ck ((es (3* n) v i).map bt) (0+(3* n - 1 - i)* 1) [bt (v / 256^i%256)] ((es (3* n) v (i+1)).map bt):=mN (Kb hi) (by rw [ng];omega) (by omega)
 have h6:0+(3* n - 1 - i)* 1+(bt (v / 256^i%256)).cells.length≤((es (3* n) v i).map bt).length:=by
  rw [List.length_map,ng]
  show _+1≤_
  omega
 exact af key ⟨decide_eq_true (by omega),bn (by omega) (by omega),bn (by omega) (by omega),h1,rfl,hr,h2,rfl,bn (by omega) (by omega),h3,decide_eq_false (by omega),h4,⟨rfl,by omega⟩,h6,h5,bn (by omega) (by omega),trivial⟩
theorem mH {v:Nat}:(aH v).size=(dg 256 v).length:=by rw [←dJ,bW]
theorem zo {v:Nat} (h:(dg 256 v).reverse≠[]):∃x l,(dg 256 v).reverse=x::l∧0<x:=by
 have hv:0<v:=by
  rcases Nat.eq_zero_or_pos v with rfl|h'
  · simp [eB] at h
  · exact h'
 obtain ⟨m,x,h1,h2,_⟩:=BN (b:=256) (by decide) hv
 exact ⟨x,m.reverse,by rw [h1];simp,h2⟩
theorem C6 (k z v:Nat) (hb:z+(dg 256 v).length<2^50):∀j o,o+j=z→aR (aI MD t17 k 89 1) (j+1) ⟨[(3, .bs 8 o 1 (j+(dg 256 v).length))],[(8,(List.replicate z 0++(dg 256 v).reverse).map bt)],[],[]⟩=some (.exit 2,⟨[(3, .bs 8 z 1 (dg 256 v).length),(40, .pv (bv false))],[(8,(List.replicate z 0++(dg 256 v).reverse).map bt)],[],[]⟩)
 |0,o,h=>by
  have ho:o=z:=by omega
  subst ho
  rw [Nat.zero_add,Nat.zero_add]
  by_cases e:(dg 256 v).reverse=[]
  · have el:(dg 256 v).length=0:=by simpa using e
    rw [el]
    exact aF (af (ZQ k o 0 _) ⟨rfl,trivial⟩) (by simp)
  · obtain ⟨x,l,e1,hx⟩:=zo e
    have el:(dg 256 v).length=l.length+1:=by
     have:=congrArg List.length e1;simpa using this
    have hg:(List.replicate o 0++(dg 256 v).reverse)[o]? =some x:=by
     rw [e1,List.getElem?_append_right (by simp)];simp
    refine aF (af (ZR k o _ x _) ⟨?_,⟨rfl,by omega⟩,DH hg (by omega), ?_,trivial⟩) (by simp)
    · exact decide_eq_true (by omega)
    · exact beq_false_of_ne (by omega)
 |j+1,o,h=>by
  have hg:(List.replicate z 0++(dg 256 v).reverse)[o]? =some 0:=by
   rw [List.getElem?_append_left (by simp;omega),List.getElem?_replicate,if_pos (by omega)]
  have key:=ZS k o (j+1+(dg 256 v).length) 0 ((List.replicate z 0++(dg 256 v).reverse).map bt)
  rw [show j+1+(dg 256 v).length - 1=j+(dg 256 v).length by omega] at key
  exact aW (af key ⟨by simp;omega,⟨rfl,by omega⟩,DH hg (by omega),rfl,⟨by omega,by omega,by omega⟩,by simp,by omega,trivial⟩) (C6 k z v hb j (o+1) (by omega))
theorem Lc (k z v:Nat) (p q r:PV) (hb:z+(dg 256 v).length<2^50):aR (aI MD t17 k 89 1) (z+1) ⟨[(0, .pv p),(3, .bs 8 0 1 (z+(dg 256 v).length)),(4, .pv q),(12, .pv r)],[(8,(List.replicate z 0++(dg 256 v).reverse).map bt)],[],[]⟩=some (.exit 2,⟨[(3, .bs 8 z 1 (dg 256 v).length),(40, .pv (bv false))],[(8,(List.replicate z 0++(dg 256 v).reverse).map bt)],[],[]⟩):=by
 cases z with
 |zero=>
  rw [Nat.zero_add,Nat.zero_add]
  by_cases e:(dg 256 v).reverse=[]
  · have el:(dg 256 v).length=0:=by simpa using e
    rw [el]
    exact aF (af (ZT k 0 0 p q r _) ⟨rfl,trivial⟩) (by simp)
  · obtain ⟨x,l,e1,hx⟩:=zo e
    have el:(dg 256 v).length=l.length+1:=by
     have:=congrArg List.length e1;simpa using this
    have hg:(List.replicate 0 0++(dg 256 v).reverse)[0]? =some x:=by
     rw [e1];rfl
    refine aF (af (ZU k 0 _ x p q r _) ⟨?_,⟨rfl,by omega⟩,DH hg (by omega), ?_,trivial⟩) (by simp)
    · exact decide_eq_true (by omega)
    · exact beq_false_of_ne (by omega)
 |succ j=>
  have hg:(List.replicate (j+1) 0++(dg 256 v).reverse)[0]? =some 0:=by
   rw [List.getElem?_append_left (by simp)]
   simp
  have key:=ZV k 0 (j+1+(dg 256 v).length) 0 p q r ((List.replicate (j+1) 0++(dg 256 v).reverse).map bt)
  rw [show j+1+(dg 256 v).length - 1=j+(dg 256 v).length by omega] at key
  exact aW (af key ⟨by simp;omega,⟨rfl,by omega⟩,DH hg (by omega),rfl,⟨by omega,by omega,by omega⟩,by simp,by omega,trivial⟩) (C6 k (j+1) v hb j (0+1) (by omega))
theorem xF (v:Nat):kU ((dg 256 v).reverse.map bt) (aH v):=by
 have:=om (dg 256 v).reverse
 unfold tv at this
 show (bytesOf ((dg 256 v).reverse.map bt)).map _=_
 rw [this];rfl
theorem Gi (l:List Nat) (h:l.length<2^40) (hd:bB (16777216:Nat) l):aA P0 89 [ni l] (one (sv (aH (val (16777216:Nat) l)))):=by
 obtain ⟨v,hv⟩:∃v,v=val (16777216:Nat) l:=⟨_,rfl⟩
 rw [←hv]
 have el:l=fd (16777216:Nat) l.length v:=jA (by decide) hd rfl hv.symm
 obtain ⟨n,hn⟩:∃n,n=l.length:=⟨_,rfl⟩
 rw [←hn] at el h
 have hlt:v<256^(3* n):=by
  have:=dc hd
  rw [←hv,←hn] at this
  rwa [Nat.pow_mul,show (256:Nat)^3=(16777216:Nat) by decide]
 rcases Nat.eq_zero_or_pos n with h0|h0
 · have hl:l=[]:=List.length_eq_zero_iff.1 (by omega)
   have oV:v=0:=by rw [hv,hl];rfl
   subst hl oV
   exact ai ah (aO aL) (by rfl) (ZW 2 (aH 0)) ⟨rfl,⟨by decide,by decide,by decide,by decide⟩,rfl,by omega,rfl,by omega,rfl,by rfl,trivial⟩
 · rw [el]
   have jR:=uW (b:=256) (by decide) hlt
   obtain ⟨z,hz⟩:∃z,z=3* n - (dg 256 v).length:=⟨_,rfl⟩
   have hdl:=lT (b:=256) (by decide) hlt
   rw [←hz] at jR
   have Sj:es (3* n) v (3* n)=List.replicate z 0++(dg 256 v).reverse:=by
    rw [LL,jR,List.reverse_append,List.reverse_replicate]
   obtain ⟨k,hk⟩:∃k,k=3* n+5:=⟨_,rfl⟩
   have l1:=cK (f:=aI MD t17 k 89 0) (S:=fun i=>⟨[(0, .pv (ni (fd (16777216:Nat) n v))),(3, .bs 8 0 1 (3* n)),(4, .pv (iv (i:Nat)))],[(8,(es (3* n) v i).map bt)],[],[]⟩) (n:=3* n) (fun i hi=>IT k i n v hi h) (r:=(.exit 0,⟨[(0, .pv (ni (fd (16777216:Nat) n v))),(3, .bs 8 0 1 (3* n)),(4, .pv (iv (3* n:Nat))),(12, .pv (bv false))],[(8,(es (3* n) v (3* n)).map bt)],[],[]⟩))
    (by
     have:=ZP k n (3* n) ((fd (16777216:Nat) n v).map aJ) ((es (3* n) v (3* n)).map bt)
     simp only [ni,cn]
     exact af this ⟨by simp,trivial⟩) (by simp) k (by omega)
   have l2:=bH (show z+1≤k by omega) (Lc k z v (ni (fd (16777216:Nat) n v)) (iv (3* n:Nat)) (bv false) (by omega))
   rw [show z+(dg 256 v).length=3* n by omega] at l2
   rw [Kc,Sj] at l1
   simp only [ni,cn] at l1 l2 ⊢
   have Qy:de ((List.replicate z 0++(dg 256 v).reverse).map bt) z ((dg 256 v).length* 1) ((dg 256 v).reverse.map bt):=pq _ _ _ (by
    rw [List.drop_left' (by simp),List.take_of_length_le (by simp)])
   have hlen:IntKind.i64.wrap (3* (n:Int))=((3* n:Nat):Int):=bn (by omega) (by omega)
   cases z with
   |zero=>
    refine ai ah (aO aL) (by rfl) (ZM k n _ ((fd (16777216:Nat) n v).map aJ) _ _ _ (aH v) 0) ⟨hlen, ?_, ?_,lE (c:=bt),l1,l2,Qy,xF v,trivial⟩
    · refine ⟨by omega,by omega, ?_, ?_⟩
      · rw [EB];show _≤((140737488355328:Nat):Int);omega
      · show _≤((140737488355328:Nat):Int);omega
    · simp;omega
   |succ o=>
    refine ai ah (aO aL) (by rfl) (ZN k n _ ((fd (16777216:Nat) n v).map aJ) _ _ _ (aH v) o) ⟨hlen, ?_, ?_,lE (c:=bt),l1,l2,Qy,xF v,trivial⟩
    · refine ⟨by omega,by omega, ?_, ?_⟩
      · rw [EB];show _≤((140737488355328:Nat):Int);omega
      · show _≤((140737488355328:Nat):Int);omega
    · simp;omega
end Go.Proofs.YtibbgjafjhcemaaDoor.Cul
namespace Go.Proofs.YtibbgjafjhcemaaDoor.Cul
open Go Go.RowKit
noncomputable def Qj:List PV→Option RV:=cu (fun l:List Nat=>l.length<2^40∧bB (16777216:Nat) l) (fun l=>[ni l]) (fun l=>one (sv (aH (val (16777216:Nat) l))))
noncomputable def t18:Cl:=bQ [(89,Qj)]
noncomputable def vX:List PV→Option RV:=cu (fun x:Bool×List Nat=>x.2.length<2^40∧bB (16777216:Nat) x.2) (fun x=>[bv x.1,ni x.2]) (fun x=>one (.ag (zc (if x.1 then -(val (16777216:Nat) x.2:Int) else (val (16777216:Nat) x.2:Int)))))
noncomputable def t19:Cl:=bQ [(73,vX)]
theorem Y4 (k o m:Nat) (cs:List PV):ak MD t0 k 90 0 ⟨[(0, .bs gk o 1 m)],[(gk,cs)],[],[]⟩ [.c false]=
 some ((Xt.exit 0,St.mk [(0,AV.bs 1000000 o 1 m),(14,AV.pv (PV.lit (Value.bool false)))] [(1000000,cs)] [] []),[],[decide ((↑m:Int)>(0:Int))=false]):=by kernel_rfl
theorem Y5 (k o m x:Nat) (cs:List PV):ak MD t0 k 90 0 ⟨[(0, .bs gk o 1 m)],[(gk,cs)],[],[]⟩ [.c true, .j 11 (m - 1), .e 12 (iv x), .c false]=
 some ((Xt.exit 0,St.mk [(0,AV.bs 1000000 o 1 m),(14,AV.pv (PV.lit (Value.bool false)))] [(1000000,cs)] [] []),[],[decide ((↑m:Int)>(0:Int))=true,aG (IntKind.i64.wrap ((↑m:Int) - (1:Int))) m (m - (1:Nat)),Ld MD.P 3 cs (o+(m - (1:Nat))* (1:Nat)) (PV.lit (Value.int IntKind.i64 (↑x:Int))),((↑x:Int)==(0:Int))=false]):=by kernel_rfl
theorem Y6 (k o m x:Nat) (cs:List PV):ak MD t0 k 90 0 ⟨[(0, .bs gk o 1 m)],[(gk,cs)],[],[]⟩ [.c true, .j 11 (m - 1), .e 12 (iv x), .c true, .o 19 o (m - 1)]=
 some ((Xt.normal,St.mk [(0,AV.bs 1000000 o 1 (m - (1:Nat)))] [(1000000,cs)] [] []),[],[decide ((↑m:Int)>(0:Int))=true,aG (IntKind.i64.wrap ((↑m:Int) - (1:Int))) m (m - (1:Nat)),Ld MD.P 3 cs (o+(m - (1:Nat))* (1:Nat)) (PV.lit (Value.int IntKind.i64 (↑x:Int))),((↑x:Int)==(0:Int))=true,(0:Int)≤(0:Int)∧(0:Int)≤IntKind.i64.wrap ((↑m:Int) - (1:Int))∧IntKind.i64.wrap ((↑m:Int) - (1:Int))≤(↑m:Int),o=o,(IntKind.i64.wrap ((↑m:Int) - (1:Int))).toNat - Int.toNat (0:Int)=m - (1:Nat)]):=by kernel_rfl
theorem Y7 (k o m n:Nat) (cs:List PV):hO MD t0 k 90 [.g cs o 1 n] [.l (.exit 0) ⟨[(0, .bs gk o 1 m),(14, .pv (bv false))],[(gk,cs)],[],[]⟩]=
 some ((MR.gs o m,cs),[cs.all bS=true,cs.length=cs.length,aN MD t0 k (90:Nat) (0:Nat) (St.mk [(0,AV.bs 1000000 o 1 n)] [(1000000,cs)] [] []) (Xt.exit 0) (St.mk [(0,AV.bs 1000000 o 1 m),(14,AV.pv (PV.lit (Value.bool false)))] [(1000000,cs)] [] [])]):=by kernel_rfl
theorem Tr (k n:Nat) (s:ByteArray) (cs0 cs ds:List PV):ay MD t0 k 72 [sv s] [.i 8 (s.size+2:Nat), .i 9 n, .c false, .f cs0, .l (.exit 0) ⟨[(0, .pv (sv s)),(3, .bs 10 0 1 n),(4, .pv (iv s.size)),(14, .pv (bv false))],[(10,cs)],[],[]⟩, .f ds]=
 some (RV.mk (PV.sl 1 n ds) (some 1),[IntKind.i64.wrap ((↑s.size:Int)+(2:Int))=(↑(s.size+(2:Nat)):Int),IntKind.i64.wrap ((↑(s.size+(2:Nat)):Int).tdiv (3:Int))=(↑n:Int),false=false,(0:Int)≤(↑n:Int)∧(↑n:Int)≤(↑n:Int)∧(↑n:Int)* (↑(MD.P.bytesOf (3:Nat)):Int)≤(↑room:Int)∧(↑n:Int)≤(↑room:Int),decide ((↑n:Int)=(0:Int))=false,iE [PV.lit (Value.int IntKind.i64 (0:Int))] n cs0,aN MD t0 k (72:Nat) (0:Nat) (St.mk [(0,AV.pv (PV.lit (Value.string s))),(3,AV.bs 10 0 1 n),(4,AV.pv (PV.lit (Value.int IntKind.i64 (0:Int))))] [(10,cs0)] [] []) (Xt.exit 0) (St.mk [(0,AV.pv (PV.lit (Value.string s))),(3,AV.bs 10 0 1 n),(4,AV.pv (PV.lit (Value.int IntKind.i64 (↑s.size:Int)))),(14,AV.pv (PV.lit (Value.bool false)))] [(10,cs)] [] []),de cs 0 (n* (1:Nat)) ds]):=by kernel_rfl
theorem Tu (k:Nat) (s:ByteArray):ay MD t0 k 72 [sv s] [.i 8 2, .i 9 0, .c true, .u 1, .c false]=
 some (RV.mk (PV.sl 1 0 []) none,[IntKind.i64.wrap ((↑s.size:Int)+(2:Int))=(2:Int),(0:Int)=(0:Int),false=false,(0:Int)≤(0:Int)∧(0:Int)≤(0:Int)∧(0:Int)* (↑(MD.P.bytesOf (3:Nat)):Int)≤(↑room:Int)∧(0:Int)≤(↑room:Int),true=true,(1:Nat)≤k,decide ((0:Int)<(↑s.size:Int))=false]):=by kernel_rfl
theorem Ts (k n i b x y:Nat) (s:ByteArray) (cs cs':List PV):ak MD t0 k 72 0 ⟨[(0, .pv (sv s)),(3, .bs 10 0 1 n),(4, .pv (iv i))],[(10,cs)],[],[]⟩ [.c true, .i 19 (s.size - 1), .i 21 (s.size - 1 - i:Nat), .i 24 (i/3:Nat), .j 25 (i/3), .e 26 (iv x), .i 29 b, .i 30 b, .i 32 (i%3:Nat), .i 33 (8*(i%3):Nat), .i 34 (256^(i%3)* b:Nat), .i 35 y, .j 36 (i/3), .s cs', .i 16 ((i+1:Nat):Int)]=
 some ((Xt.normal,St.mk [(0,AV.pv (PV.lit (Value.string s))),(3,AV.bs 10 0 1 n),(4,AV.pv (PV.lit (Value.int IntKind.i64 (↑(i+(1:Nat)):Int))))] [(10,cs')] [] []),[],[decide ((↑i:Int)<(↑s.size:Int))=true,IntKind.i64.wrap ((↑s.size:Int) - (1:Int))=(↑s.size:Int) - (1:Int),IntKind.i64.wrap ((↑s.size:Int) - (1:Int) - (↑i:Int))=(↑(s.size - (1:Nat) - i):Int),IntKind.i64.wrap ((↑i:Int).tdiv (3:Int))=(↑(i / (3:Nat)):Int),false=false,aG (↑(i / (3:Nat)):Int) n (i / (3:Nat)),Ld MD.P 3 cs ((0:Nat)+i / (3:Nat)* (1:Nat)) (PV.lit (Value.int IntKind.i64 (↑x:Int))),fu s (↑(s.size - (1:Nat) - i):Int) (↑b:Int),IntKind.i64.wrap (↑b:Int)=(↑b:Int),(↑i:Int).tmod (3:Int)=(↑(i%(3:Nat)):Int),false=false,IntKind.i64.wrap ((8:Int)* (↑(i%(3:Nat)):Int))=(↑((8:Nat)* (i%(3:Nat))):Int),IntKind.i64.wrap ((↑b:Int)* (2:Int)^min (↑((8:Nat)* (i%(3:Nat))):Int).toNat IntKind.i64.bits)=(↑((256:Nat)^(i%(3:Nat))* b):Int),decide ((↑((8:Nat)* (i%(3:Nat))):Int)<(0:Int))=false,IntKind.i64.wrap ((↑x:Int)+(↑((256:Nat)^(i%(3:Nat))* b):Int))=(↑y:Int),aG (↑(i / (3:Nat)):Int) n (i / (3:Nat)),(0:Nat)+i / (3:Nat)* (1:Nat)+(PV.lit (Value.int IntKind.i64 (↑y:Int))).cells.length≤cs.length,ck cs ((0:Nat)+i / (3:Nat)* (1:Nat)) [PV.lit (Value.int IntKind.i64 (↑y:Int))] cs',IntKind.i64.wrap ((↑i:Int)+(1:Int))=(↑(i+(1:Nat)):Int)]):=by kernel_rfl
theorem Tt (k n i:Nat) (s:ByteArray) (cs:List PV):ak MD t0 k 72 0 ⟨[(0, .pv (sv s)),(3, .bs 10 0 1 n),(4, .pv (iv i))],[(10,cs)],[],[]⟩ [.c false]=
 some ((Xt.exit 0,St.mk [(0,AV.pv (PV.lit (Value.string s))),(3,AV.bs 10 0 1 n),(4,AV.pv (PV.lit (Value.int IntKind.i64 (↑i:Int)))),(14,AV.pv (PV.lit (Value.bool false)))] [(10,cs)] [] []),[],[decide ((↑i:Int)<(↑s.size:Int))=false]):=by kernel_rfl
theorem Yy (k n:Nat) (cs:List PV) (c:Bool) (s:ByteArray):ay MD t18 k 73 [bv true, .sl 1 n cs] [.r (one (sv s)), .c c]=
 some (RV.mk (PV.ag [PV.lit (Value.bool c),PV.lit (Value.string s)]) none,[aa t18 89 [PV.sl 1 n cs] (RV.mk (PV.lit (Value.string s)) none),(!s.toList==(ByteArray.mk #[]).toList)=c]):=by kernel_rfl
theorem Yx (k n:Nat) (cs:List PV) (s:ByteArray):ay MD t18 k 73 [bv false, .sl 1 n cs] [.r (one (sv s))]=
 some (RV.mk (PV.ag [PV.lit (Value.bool false),PV.lit (Value.string s)]) none,[aa t18 89 [PV.sl 1 n cs] (RV.mk (PV.lit (Value.string s)) none)]):=by kernel_rfl
theorem Yk (k:Nat) (n u w d0 d1 d2:Int) (e:Bool) (s:ByteArray):ay MD t19 k 61 [iv n] [.i 5 u, .c true, .i 9 w, .c true, .i 14 d0, .i 18 d1, .i 22 d2, .r (one (iz e s))]=
 some (RV.mk (PV.ag [PV.lit (Value.bool e),PV.lit (Value.string s)]) none,[IntKind.u64.wrap n=u,decide (n<(0:Int))=true,IntKind.u64.wrap ((0:Int) - u)=w,decide (n<(0:Int))=true,false=false,IntKind.i64.wrap (w.tmod (16777216:Int))=d0,false=false,false=false,IntKind.i64.wrap ((IntKind.u64.wrap (w.tdiv (16777216:Int))).tmod (16777216:Int))=d1,false=false,false=false,IntKind.i64.wrap (IntKind.u64.wrap ((IntKind.u64.wrap (w.tdiv (16777216:Int))).tdiv (16777216:Int)))=d2,aa t19 73 [PV.lit (Value.bool true),PV.sl 1 3 [PV.lit (Value.int IntKind.i64 d0),PV.lit (Value.int IntKind.i64 d1),PV.lit (Value.int IntKind.i64 d2)]] (RV.mk (PV.ag [PV.lit (Value.bool e),PV.lit (Value.string s)]) none)]):=by kernel_rfl
theorem Yl (k:Nat) (n u d0 d1 d2:Int) (e:Bool) (s:ByteArray):ay MD t19 k 61 [iv n] [.i 5 u, .c false, .c false, .i 14 d0, .i 18 d1, .i 22 d2, .r (one (iz e s))]=
 some (RV.mk (PV.ag [PV.lit (Value.bool e),PV.lit (Value.string s)]) none,[IntKind.u64.wrap n=u,decide (n<(0:Int))=false,decide (n<(0:Int))=false,false=false,IntKind.i64.wrap (u.tmod (16777216:Int))=d0,false=false,false=false,IntKind.i64.wrap ((IntKind.u64.wrap (u.tdiv (16777216:Int))).tmod (16777216:Int))=d1,false=false,false=false,IntKind.i64.wrap (IntKind.u64.wrap ((IntKind.u64.wrap (u.tdiv (16777216:Int))).tdiv (16777216:Int)))=d2,aa t19 73 [PV.lit (Value.bool false),PV.sl 1 3 [PV.lit (Value.int IntKind.i64 d0),PV.lit (Value.int IntKind.i64 d1),PV.lit (Value.int IntKind.i64 d2)]] (RV.mk (PV.ag [PV.lit (Value.bool e),PV.lit (Value.string s)]) none)]):=by kernel_rfl
theorem J5 {b:Nat} (hb:2≤b) {l:List Nat} (h:bB b l):dg b (val b l)=l.take (dg b (val b l)).length:=by
 have h1:l=fd b l.length (val b l):=jA (by omega) h rfl rfl
 have h2:=uW hb (dc h)
 rw [←h1] at h2
 exact ((congrArg (List.take (dg b (val b l)).length) h2).trans (List.take_left' rfl)).symm
theorem wE (k:Nat) (p:List Nat):∀(n:Nat) (l q:List Nat),l.length=n→n<2^40→bB (16777216:Nat) l→aR (aI MD t0 k 90 0) (n+1) ⟨[(0, .bs gk p.length 1 l.length)],[(gk,(p++l++q).map aJ)],[],[]⟩=some (.exit 0,⟨[(0, .bs gk p.length 1 (dg (16777216:Nat) (val (16777216:Nat) l)).length),(14, .pv (bv false))],[(gk,(p++l++q).map aJ)],[],[]⟩)
 |0,l,q,hl,_,_=>by
  have:l=[]:=List.length_eq_zero_iff.1 hl
  subst this
  exact aF (af (Y4 k p.length 0 _) ⟨rfl,trivial⟩) (by simp)
 |n+1,l,q,hl,hn,hd=>by
  have hne:l≠[]:=by intro h;subst h;simp at hl
  have e:=List.dropLast_concat_getLast hne
  obtain ⟨x,hx⟩:∃x,x=l.getLast hne:=⟨_,rfl⟩
  obtain ⟨m,hm⟩:∃m,m=l.dropLast:=⟨_,rfl⟩
  rw [←hx,←hm] at e
  subst e
  have hl':m.length=n:=by simpa using hl
  have hw:IntKind.i64.wrap (((m++[x]).length:Int) - 1)=(((m++[x]).length - 1:Nat):Int):=bn (by omega) (by omega)
  have hg:(p++(m++[x])++q)[p.length+n]? =some x:=by
   rw [List.append_assoc,List.getElem?_append_right (by omega),Nat.add_sub_cancel_left,List.append_assoc,List.getElem?_append_right (by omega),hl',Nat.sub_self];rfl
  have va:=qd hg (o:=p.length+((m++[x]).length - 1)* 1) (by omega)
  have h0:decide (((m++[x]).length:Int)>0)=true:=decide_eq_true (by omega)
  have ha:aG (IntKind.i64.wrap (((m++[x]).length:Int) - 1)) (m++[x]).length ((m++[x]).length - 1):=⟨hw,by omega⟩
  by_cases h:x=0
  · subst h
    refine aW (af (Y6 k p.length _ 0 _) ⟨h0,ha,va,rfl,⟨by omega,by omega,by omega⟩,rfl, ?_,trivial⟩) ?_
    · rw [hw];simp
    · have:=wE k p n m (0::q) hl' (by omega) hd.left
      have e1:p++(m++[0])++q=p++m++0::q:=by simp
      have e2:(m++[0]).length - 1=m.length:=by simp
      rw [su,e1,e2]
      exact this
  · have:=aF (n:=n+1) (af (Y5 k p.length (m++[x]).length x _) ⟨h0,ha,va,beq_false_of_ne (by omega),trivial⟩) (by simp)
    rw [Dj (by decide) hd (.inr ⟨m,x,rfl,by omega⟩)]
    exact this
theorem gi (l:List Nat):(l.map aJ).all bS=true:=Nh (fun _=>rfl) l
theorem Iz (p l:List Nat) (h:l.length<2^40) (hd:bB (16777216:Nat) l):dy P0 90 [.g ((p++l).map aJ) p.length 1 l.length] (.gs p.length (dg (16777216:Nat) (val (16777216:Nat) l)).length) ((p++l).map aJ):=by
 have:=wE (l.length+1) p l.length l [] rfl h hd
 rw [List.append_nil] at this
 exact eu ah (aO aL) (by rfl) (Y7 (l.length+1) p.length _ l.length _) ⟨gi _,rfl,this,trivial⟩
noncomputable def AW:List MA→Option (MR×List PV):=pz (fun x:List Nat×List Nat=>x.2.length<2^40∧bB (16777216:Nat) x.2) (fun x=>[.g ((x.1++x.2).map aJ) x.1.length 1 x.2.length]) (fun x=>(.gs x.1.length (dg (16777216:Nat) (val (16777216:Nat) x.2)).length,(x.1++x.2).map aJ))
theorem yo {p l:List Nat} (h:l.length<2^40) (hd:bB (16777216:Nat) l):AW [.g ((p++l).map aJ) p.length 1 l.length]=some (.gs p.length (dg (16777216:Nat) (val (16777216:Nat) l)).length,(p++l).map aJ):=
 kG (a:=(p,l)) (enc:=fun x:List Nat×List Nat=>[.g ((x.1++x.2).map aJ) x.1.length 1 x.2.length]) (fun a b e=>by
  simp only [List.cons.injEq,and_true,MA.g.injEq,true_and] at e
  have h1:=uj e.1
  have h2:=List.append_inj h1 e.2.1
  have:a=b:=Prod.ext h2.1 h2.2
  rw [this]) ⟨h,hd⟩
theorem Gz:∀ms r cs',AW ms=some (r,cs')→dy P0 90 ms r cs':=kH fun x h=>Iz x.1 x.2 h.1 h.2
theorem D9 {b r:Nat} (hb:b<256) (hr:r<3):IntKind.i64.wrap ((b:Int)* (2:Int)^min ((8* r:Nat):Int).toNat IntKind.i64.bits)=((256^r* b:Nat):Int):=by
 have e:min ((8* r:Nat):Int).toNat IntKind.i64.bits=8* r:=by
  rw [Int.toNat_natCast];show min (8* r) 64=8* r;omega
 rw [e]
 have e2:(2:Int)^(8* r)=((256^r:Nat):Int):=by
  rw [Int.pow_mul];simp
 rw [e2]
 have h1:256^r* b<2^24:=by
  have:256^r≤256^2:=Nat.pow_le_pow_right (by omega) (by omega)
  calc 256^r* b≤256^2* 255:=Nat.mul_le_mul this (by omega)
   _<2^24:=by decide
 exact bn (by rw [Int.mul_comm];simp) (by omega)
theorem EL (k i n:Nat) (s:ByteArray) (hi:i<s.size) (hs:s.size<2^30) (hn:n=(s.size+2) / 3):aI MD t0 k 72 0 ⟨[(0, .pv (sv s)),(3, .bs 10 0 1 n),(4, .pv (iv i))],[(10,(bM 3 (aY s) i n).map aJ)],[],[]⟩=some (.normal,⟨[(0, .pv (sv s)),(3, .bs 10 0 1 n),(4, .pv (iv (i+1:Nat)))],[(10,(bM 3 (aY s) (i+1) n).map aJ)],[],[]⟩):=by
 obtain ⟨b,hb,cF⟩:=mG hi
 have oQ:b<256:=ef s b (List.mem_of_getElem? hb)
 have hd:=ef s
 have hin:i / 3<n:=by omega
 have hx:(bM 3 (aY s) i n)[i / 3]? =some (cellAt 3 (aY s) i (i / 3)):=by simp [bM,hin]
 have hlt:=rj (c:=3) hd i (i / 3)
 have hm:min 3 (i - 3* (i / 3))=i%3:=by omega
 rw [hm] at hlt
 have hr:i%3<3:=by omega
 have hp:256^(i%3)* 256≤2^24:=by
  have:256^(i%3)≤256^2:=Nat.pow_le_pow_right (by omega) (by omega)
  omega
 have hsum:cellAt 3 (aY s) i (i / 3)+256^(i%3)* b<2^24:=by
  have h1:256^(i%3)* (b+1)≤256^(i%3)* 256:=Nat.mul_le_mul_left _ (by omega)
  rw [Nat.mul_add] at h1
  omega
 have va:=qd hx (o:=0+i / 3* 1) (by omega)
 have z9:fu s ((s.size - 1 - i:Nat):Int) (b:Int):=by
  show ji s _=_
  unfold ji
  rw [if_pos (by omega),Int.toNat_natCast]
  cases h:s[s.size - 1 - i]? with
  |none=>rw [h] at cF;simp at cF
  |some c=>rw [h] at cF;simp at cF;simp [cF]
 have h1:IntKind.i64.wrap ((i:Int).tdiv 3)=((i / 3:Nat):Int):=bn (ia i 3) (by omega)
 have h2:(i:Int).tmod 3=((i%3:Nat):Int):=fy i 3
 have h3:IntKind.i64.wrap ((s.size:Int) - 1)=(s.size:Int) - 1:=by rw [wrap64]<;>omega
 have O0:IntKind.i64.wrap (((cellAt 3 (aY s) i (i / 3):Nat):Int)+((256^(i%3)* b:Nat):Int))=((cellAt 3 (aY s) i (i / 3)+256^(i%3)* b:Nat):Int):=bn (by simp) (by omega)
 have h6:0+i / 3* 1+(aJ (cellAt 3 (aY s) i (i / 3)+256^(i%3)* b)).cells.length≤((bM 3 (aY s) i n).map aJ).length:=by
  rw [List.length_map,ec]
  show _+1≤_
  omega
 have h5:ck ((bM 3 (aY s) i n).map aJ) (0+i / 3* 1) [aJ (cellAt 3 (aY s) i (i / 3)+256^(i%3)* b)] ((bM 3 (aY s) (i+1) n).map aJ):=mN (rm (by omega) hb) (by rw [ec];exact hin) (by omega)
 exact af (Ts k n i b (cellAt 3 (aY s) i (i / 3)) (cellAt 3 (aY s) i (i / 3)+256^(i%3)* b) s _ ((bM 3 (aY s) (i+1) n).map aJ)) ⟨decide_eq_true (by omega),h3,bn (by omega) (by omega),h1,rfl,⟨rfl,hin⟩,va,z9,bn rfl (by omega),h2,rfl,bn (by omega) (by omega),D9 oQ hr,decide_eq_false (by omega),O0,⟨rfl,hin⟩,h6,h5,bn (by omega) (by omega),trivial⟩
theorem EO (v:Nat):bM 3 (dg 256 v) (dg 256 v).length (((dg 256 v).length+2) / 3)=dg (16777216:Nat) v:=by
 obtain ⟨n,hn⟩:∃n,n=((dg 256 v).length+2) / 3:=⟨_,rfl⟩
 rw [←hn]
 have hend:=oo (c:=3) (by omega) n (dg 256 v) (by omega)
 rw [ct (by decide)] at hend
 have HL:=tw (c:=3) (cD (b:=256) (by decide) v) (dg 256 v).length n
 rw [show (256:Nat)^3=(16777216:Nat) by decide] at hend HL
 have h1:=jA (by decide) HL (ec _ _ _ _) hend
 have hlt:v<(16777216:Nat)^n:=by have:=dc HL;rw [hend,ec] at this;exact this
 rw [h1,uW (by decide) hlt]
 have hle:=lT (b:=(16777216:Nat)) (by decide) hlt
 have hge:n≤(dg (16777216:Nat) v).length:=by
  rcases Nat.eq_zero_or_pos v with rfl|hv
  · rw [eB] at hn ⊢;simp at hn;omega
  · have h2:=nX (b:=256) (by decide) hv
    have h3:v<256^(3* (dg (16777216:Nat) v).length):=by
     have:=eG (b:=(16777216:Nat)) (n:=v) (by decide)
     rwa [Nat.pow_mul,show (256:Nat)^3=(16777216:Nat) by decide]
    have:(dg 256 v).length - 1<3* (dg (16777216:Nat) v).length:=by
     apply Classical.byContradiction
     intro hc
     have:=Nat.pow_le_pow_right (n:=256) (by decide) (Nat.le_of_not_lt hc)
     omega
    omega
 have:n - (dg (16777216:Nat) v).length=0:=by omega
 rw [this];simp
theorem By (s:ByteArray) (h:s.size=0):aA P0 72 [sv s] (one (ni (dg (16777216:Nat) (bR s)))):=by
 have hv:bR s=0:=by
  have e:aY s=[]:=List.length_eq_zero_iff.1 (by rw [bW];exact h)
  simp [bR,e,val]
 rw [hv]
 refine ai ah (aO aL) (by rfl) (Tu 1 s) ⟨?_,rfl,rfl,⟨by decide,by decide,by decide,by decide⟩,rfl,by omega,decide_eq_false (by omega),trivial⟩
 rw [h];rfl
theorem vQ (v:Nat) (hs:(aH v).size<2^30) (h0:0<v):aA P0 72 [sv (aH v)] ⟨ni (dg (16777216:Nat) v),some 1⟩:=by
 have hsz:(aH v).size=(dg 256 v).length:=mH
 have hb:=dJ v
 obtain ⟨n,hn⟩:∃n,n=((aH v).size+2) / 3:=⟨_,rfl⟩
 have hn0:0<(aH v).size:=by
  rw [hsz]
  have:=dK (b:=256) (by decide) h0
  rw [this];simp
 have hend:bM 3 (aY (aH v)) (aH v).size n=dg (16777216:Nat) v:=by rw [hb,hsz,hn,hsz];exact EO v
 have hlen:(dg (16777216:Nat) v).length=n:=by rw [←hend,ec]
 have lp:=cK (f:=aI MD t0 ((aH v).size+1) 72 0) (S:=fun i=>⟨[(0, .pv (sv (aH v))),(3, .bs 10 0 1 n),(4, .pv (iv i))],[(10,(bM 3 (aY (aH v)) i n).map aJ)],[],[]⟩) (n:=(aH v).size) (fun i hi=>EL _ i n _ hi hs hn) (af (Tt _ n _ _ _) ⟨decide_eq_false (by omega),trivial⟩) (by simp) ((aH v).size+1) (by omega)
 rw [rq,hend] at lp
 have h1:IntKind.i64.wrap (((aH v).size:Int)+2)=(((aH v).size+2:Nat):Int):=bn (by omega) (by omega)
 have h2:IntKind.i64.wrap ((((aH v).size+2:Nat):Int).tdiv 3)=(n:Int):=bn (by rw [hn];exact ia _ 3) (by omega)
 have:=ai ah (aO aL) (by rfl) (Tr ((aH v).size+1) n (aH v) ((List.replicate n 0).map aJ) ((dg (16777216:Nat) v).map aJ) ((dg (16777216:Nat) v).map aJ)) ⟨h1,h2,rfl,⟨by omega,by omega,by rw [EA];show _≤((140737488355328:Nat):Int);omega,by show _≤((140737488355328:Nat):Int);omega⟩,decide_eq_false (by omega),lE (c:=aJ),lp,pq _ 0 (n* 1) (by rw [List.drop_zero,List.take_of_length_le (by omega)]),trivial⟩
 unfold ni
 rw [hlen]
 exact this
theorem Lp {l:List Nat} (h:l.length<2^40) (hd:bB (16777216:Nat) l):Qj [ni l]=some (one (sv (aH (val (16777216:Nat) l)))):=
 bl (enc:=fun l:List Nat=>[ni l]) (fun a b e=>by rw [rU (List.cons.inj e).1]) ⟨h,hd⟩
theorem G1:aP MD.P t18:=aO (au (aE fun l h=>Gi l h.1 h.2) aL)
theorem qn (g:Bool) (l:List Nat) (h:l.length<2^40) (hd:bB (16777216:Nat) l):aA P0 73 [bv g,ni l] (one (.ag (zc (if g then -(val (16777216:Nat) l:Int) else (val (16777216:Nat) l:Int))))):=by
 have hb:=Lp h hd
 cases g with
 |false=>
  simp only [Bool.false_eq_true,if_false]
  have:=ai ah G1 (by rfl) (Yx 1 _ _ _) ⟨hb,trivial⟩
  have e:zc (val (16777216:Nat) l:Int)=[bv false,sv (aH (val (16777216:Nat) l))]:=by
   simp only [zc,Int.natAbs_natCast]
   rw [decide_eq_false (by omega)]
  rw [e];exact this
 |true=>
  simp only [if_true]
  have:=ai ah G1 (by rfl) (Yy 1 _ _ (!decide ((aH (val (16777216:Nat) l)).size=0)) _) ⟨hb,by rw [cS],trivial⟩
  have e:zc (-(val (16777216:Nat) l:Int))=[bv (!decide ((aH (val (16777216:Nat) l)).size=0)),sv (aH (val (16777216:Nat) l))]:=by
   simp only [zc,Int.natAbs_neg,Int.natAbs_natCast,List.cons.injEq,and_true]
   congr 1
   by_cases h0:(aH (val (16777216:Nat) l)).size=0
   · have:=vw h0;rw [this];rfl
   · have:val (16777216:Nat) l≠0:=fun e=>h0 (by rw [e];rfl)
     rw [decide_eq_true (by omega),decide_eq_false h0];rfl
  rw [e];exact this
theorem yp {g:Bool} {l:List Nat} (h:l.length<2^40) (hd:bB (16777216:Nat) l):vX [bv g,ni l]=some (one (.ag (zc (if g then -(val (16777216:Nat) l:Int) else (val (16777216:Nat) l:Int))))):=
 bl (a:=(g,l)) (enc:=fun x:Bool×List Nat=>[bv x.1,ni x.2]) (fun a b e=>by
  simp only [List.cons.injEq,and_true] at e
  have:a=b:=Prod.ext (Ez e.1) (rU e.2)
  rw [this]) ⟨h,hd⟩
theorem G3:aP MD.P t19:=aO (au (aE fun x h=>qn x.1 x.2 h.1 h.2) aL)
theorem AT (n:Int) (h1: -(2^63)≤n) (h2:n<2^63):aA P0 61 [iv n] (one (.ag (zc n))):=by
 obtain ⟨m,hm⟩:∃m:Nat,m=n.natAbs:=⟨_,rfl⟩
 have hd:bB (16777216:Nat) [m%(16777216:Nat),m / (16777216:Nat)%(16777216:Nat),m / (16777216:Nat) / (16777216:Nat)]:=by
  intro x hx
  simp at hx
  omega
 have hv:val (16777216:Nat) [m%(16777216:Nat),m / (16777216:Nat)%(16777216:Nat),m / (16777216:Nat) / (16777216:Nat)]=m:=by simp [val];omega
 have hT:=fun g=>yp (g:=g) (l:=[m%(16777216:Nat),m / (16777216:Nat)%(16777216:Nat),m / (16777216:Nat) / (16777216:Nat)]) (by simp) hd
 rw [hv] at hT
 have e0:IntKind.i64.wrap ((m:Int).tmod 16777216)=((m%(16777216:Nat):Nat):Int):=bn (fy m (16777216:Nat)) (by omega)
 have e1:IntKind.u64.wrap ((m:Int).tdiv 16777216)=((m / (16777216:Nat):Nat):Int):=bE (ia m (16777216:Nat)) (by omega)
 have e2:IntKind.i64.wrap (((m / (16777216:Nat):Nat):Int).tmod 16777216)=((m / (16777216:Nat)%(16777216:Nat):Nat):Int):=bn (fy (m / (16777216:Nat)) (16777216:Nat)) (by omega)
 have e3:IntKind.u64.wrap (((m / (16777216:Nat):Nat):Int).tdiv 16777216)=((m / (16777216:Nat) / (16777216:Nat):Nat):Int):=bE (ia (m / (16777216:Nat)) (16777216:Nat)) (by omega)
 have e4:IntKind.i64.wrap (((m / (16777216:Nat) / (16777216:Nat):Nat):Int))=((m / (16777216:Nat) / (16777216:Nat):Nat):Int):=bn rfl (by omega)
 by_cases hn:n<0
 · have:=hT true
   simp only [if_true] at this
   rw [show -(m:Int)=n by omega] at this
   exact ai ah G3 (by rfl) (Yk 1 n (n+18446744073709551616) (m:Int) _ _ _ _ _) ⟨by rw [wrap_u64];omega,decide_eq_true hn,by rw [wrap_u64];omega,decide_eq_true hn,rfl,e0,rfl,rfl,by rw [e1];exact e2,rfl,rfl,by rw [e1,e3];exact e4,this,trivial⟩
 · have:=hT false
   simp only [Bool.false_eq_true,if_false] at this
   rw [show (m:Int)=n by omega] at this
   exact ai ah G3 (by rfl) (Yl 1 n (m:Int) _ _ _ _ _) ⟨by rw [wrap_u64];omega,decide_eq_false hn,decide_eq_false hn,rfl,e0,rfl,rfl,by rw [e1];exact e2,rfl,rfl,by rw [e1,e3];exact e4,this,trivial⟩
end Go.Proofs.YtibbgjafjhcemaaDoor.Cul
namespace Go.Proofs.YtibbgjafjhcemaaDoor.Cul
def dH (b n i v:Nat):List Nat:=fd b i v++List.replicate (n - i) 0
theorem ir {b n i v:Nat} (h:i≤n):(dH b n i v).length=n:=by simp [dH,cn];omega
theorem pX (b n v:Nat):dH b n 0 v=List.replicate n 0:=by simp [dH,fd]
theorem wU (b n v:Nat):dH b n n v=fd b n v:=by simp [dH]
theorem BW (b:Nat):∀(i v:Nat),fd b (i+1) v=fd b i v++[v / b^i%b]
 |0,v=>by simp [fd]
 |i+1,v=>by
  have h:fd b (i+1+1) v=v%b::fd b (i+1) (v / b):=rfl
  have h2:fd b (i+1) v=v%b::fd b i (v / b):=rfl
  rw [h,h2,BW b i (v / b),Nat.div_div_eq_div_mul,Nat.pow_succ,Nat.mul_comm b];rfl
theorem nh {b n i v:Nat} (h:i<n):(dH b n i v).set i (v / b^i%b)=dH b n (i+1) v:=by
 unfold dH
 rw [BW]
 obtain ⟨m,hm⟩:∃m,n - i=m+1:=⟨n - i - 1,by omega⟩
 have hm2:n - (i+1)=m:=by omega
 rw [hm,hm2,List.replicate_succ]
 rw [List.set_append_right _ _ (by rw [cn];omega),cn,Nat.sub_self,List.set_cons_zero,List.append_assoc];rfl
theorem OS {b:Nat} (hb:2≤b) (v:Nat):dg b v=fd b (dg b v).length v:=jA (by omega) (cD hb v) rfl (ct hb v)
theorem ru {b v i:Nat} (hb:2≤b) (h:i<(dg b v).length):(dg b v)[i]? =some (v / b^i%b):=by
 rw [OS hb v];exact ij h
theorem uN {b v i:Nat} (hb:2≤b) (h:(dg b v).length≤i):v / b^i=0:=by
 rw [Nat.div_eq_zero_iff]
 right
 exact Nat.lt_of_lt_of_le (eG hb) (Nat.pow_le_pow_right (by omega) h)
theorem eN (v b i:Nat):v / b^(i+1)=v / b^i / b:=by rw [Nat.pow_succ,Nat.div_div_eq_div_mul]
theorem y9 (a b:Nat):∀i,a / (16777216:Nat)^i+b / (16777216:Nat)^i≤(a+b) / (16777216:Nat)^i∧(a+b) / (16777216:Nat)^i≤a / (16777216:Nat)^i+b / (16777216:Nat)^i+1
 |0=>by simp
 |i+1=>by
  have:=y9 a b i
  rw [eN,eN,eN]
  omega
theorem IN (a e:Nat) (he:e≤1):∀i,2* (a / (16777216:Nat)^i)≤(2* a+e) / (16777216:Nat)^i∧(2* a+e) / (16777216:Nat)^i≤2* (a / (16777216:Nat)^i)+1
 |0=>by simp;omega
 |i+1=>by
  have:=IN a e he i
  rw [eN,eN]
  omega
theorem eC {b x y:Nat} (hb:2≤b) (h:x≤y):(dg b x).length≤(dg b y).length:=
 lT hb (Nat.lt_of_le_of_lt h (eG hb))
theorem ud {b n v:Nat} (hb:2≤b) (h:v<b^n):(fd b n v).take (dg b v).length=dg b v:=by
 rw [uW hb h];exact List.take_left' rfl
theorem EK {b x y:Nat} (hb:2≤b) (h:(dg b x).length<(dg b y).length):x<y:=by
 have h1:=eG (b:=b) (n:=x) hb
 rcases Nat.eq_zero_or_pos y with rfl|hy
 · simp [eB] at h
 · have h2:=nX (b:=b) hb hy
   have:b^(dg b x).length≤b^((dg b y).length - 1):=Nat.pow_le_pow_right (by omega) (by omega)
   omega
end Go.Proofs.YtibbgjafjhcemaaDoor.Cul
namespace Go.Proofs.YtibbgjafjhcemaaDoor.Cul
open Go Go.RowKit
noncomputable def t20:Cl:=oD [] [(90,AW)] []
noncomputable def t21:Cl:=bQ [(58,gV)]
theorem Xq (k:Nat) (u m1 m2 m3 m4:Int) (s:ByteArray):ay MD t21 k 88 [iz true s] [.r (one (bv true)), .c false, .l (.exit 0) ⟨[(1, .bp 1 0),(4, .pv (.lit (.int .u64 u))),(5, .pv (iv s.size)),(19, .pv (bv false))],[(1,[bv true,sv s])],[],[]⟩, .c true, .i 38 m1, .i 39 m2, .i 40 m3, .i 41 m4]=
 some (RV.mk (PV.an [PV.lit (Value.int IntKind.i64 m4),PV.lit (Value.bool true)]) none,[aa t21 58 [PV.ag [PV.lit (Value.bool true),PV.lit (Value.string s)]] (RV.mk (PV.lit (Value.bool true)) none),decide ((↑s.size:Int)>(8:Int))=false,aN MD t21 k (88:Nat) (0:Nat) (St.mk [(1,AV.bp 1 0),(4,AV.pv (PV.lit (Value.int IntKind.u64 (0:Int)))),(5,AV.pv (PV.lit (Value.int IntKind.i64 (0:Int))))] [(1,[PV.lit (Value.bool true),PV.lit (Value.string s)])] [] []) (Xt.exit 0) (St.mk [(1,AV.bp 1 0),(4,AV.pv (PV.lit (Value.int IntKind.u64 u))),(5,AV.pv (PV.lit (Value.int IntKind.i64 (↑s.size:Int)))),(19,AV.pv (PV.lit (Value.bool false)))] [(1,[PV.lit (Value.bool true),PV.lit (Value.string s)])] [] []),decide (u≤(9223372036854775808:Int))=true,IntKind.u64.wrap (u - (1:Int))=m1,IntKind.i64.wrap m1=m2,IntKind.i64.wrap ((0:Int) - m2)=m3,IntKind.i64.wrap (m3 - (1:Int))=m4]):=by kernel_rfl
theorem Xr (k:Nat) (u m1:Int) (s:ByteArray):ay MD t21 k 88 [iz false s] [.r (one (bv true)), .c false, .l (.exit 0) ⟨[(1, .bp 1 0),(4, .pv (.lit (.int .u64 u))),(5, .pv (iv s.size)),(19, .pv (bv false))],[(1,[bv false,sv s])],[],[]⟩, .c true, .i 51 m1]=
 some (RV.mk (PV.an [PV.lit (Value.int IntKind.i64 m1),PV.lit (Value.bool true)]) none,[aa t21 58 [PV.ag [PV.lit (Value.bool false),PV.lit (Value.string s)]] (RV.mk (PV.lit (Value.bool true)) none),decide ((↑s.size:Int)>(8:Int))=false,aN MD t21 k (88:Nat) (0:Nat) (St.mk [(1,AV.bp 1 0),(4,AV.pv (PV.lit (Value.int IntKind.u64 (0:Int)))),(5,AV.pv (PV.lit (Value.int IntKind.i64 (0:Int))))] [(1,[PV.lit (Value.bool false),PV.lit (Value.string s)])] [] []) (Xt.exit 0) (St.mk [(1,AV.bp 1 0),(4,AV.pv (PV.lit (Value.int IntKind.u64 u))),(5,AV.pv (PV.lit (Value.int IntKind.i64 (↑s.size:Int)))),(19,AV.pv (PV.lit (Value.bool false)))] [(1,[PV.lit (Value.bool false),PV.lit (Value.string s)])] [] []),decide (u<(9223372036854775808:Int))=true,IntKind.i64.wrap u=m1]):=by kernel_rfl
theorem Xs (k i b:Nat) (u u1 u2:Int) (g:Bool) (s:ByteArray):ak MD t21 k 88 0 ⟨[(1, .bp 1 0),(4, .pv (.lit (.int .u64 u))),(5, .pv (iv i))],[(1,[bv g,sv s])],[],[]⟩ [.c true, .i 23 u1, .i 27 b, .i 28 b, .i 29 u2, .i 21 (i+1:Nat)]=
 some ((Xt.normal,St.mk [(1,AV.bp 1 0),(4,AV.pv (PV.lit (Value.int IntKind.u64 u2))),(5,AV.pv (PV.lit (Value.int IntKind.i64 (↑(i+(1:Nat)):Int))))] [(1,[PV.lit (Value.bool g),PV.lit (Value.string s)])] [] []),[],[decide ((↑i:Int)<(↑s.size:Int))=true,IntKind.u64.wrap (u* (2:Int)^min (Int.toNat (8:Int)) IntKind.u64.bits)=u1,false=false,fu s (↑i:Int) (↑b:Int),IntKind.u64.wrap (↑b:Int)=(↑b:Int),IntKind.u64.wrap (u1+(↑b:Int))=u2,IntKind.i64.wrap ((↑i:Int)+(1:Int))=(↑(i+(1:Nat)):Int)]):=by kernel_rfl
theorem Xu (k i:Nat) (u:Int) (g:Bool) (s:ByteArray):ak MD t21 k 88 0 ⟨[(1, .bp 1 0),(4, .pv (.lit (.int .u64 u))),(5, .pv (iv i))],[(1,[bv g,sv s])],[],[]⟩ [.c false]=
 some ((Xt.exit 0,St.mk [(1,AV.bp 1 0),(4,AV.pv (PV.lit (Value.int IntKind.u64 u))),(5,AV.pv (PV.lit (Value.int IntKind.i64 (↑i:Int)))),(19,AV.pv (PV.lit (Value.bool false)))] [(1,[PV.lit (Value.bool g),PV.lit (Value.string s)])] [] []),[],[decide ((↑i:Int)<(↑s.size:Int))=false]):=by kernel_rfl
noncomputable def FI:List PV→Option RV:=cu (fun z:Int=>(aH z.natAbs).size≤7) (fun z=>[.ag (zc z)]) (fun z=>one (.an [iv z,bv true]))
noncomputable def t22:Cl:=bQ [(88,FI)]
theorem Tw (k:Nat) (g:Bool) (s:ByteArray) (z:Int):ay MD t22 k 71 [iz g s] [.c false, .r (one (.an [iv z,bv true]))]=
 some (RV.mk (PV.an [PV.lit (Value.int IntKind.i64 z),PV.lit (Value.bool true)]) none,[decide ((↑s.size:Int)>(7:Int))=false,aa t22 88 [PV.ag [PV.lit (Value.bool g),PV.lit (Value.string s)]] (RV.mk (PV.an [PV.lit (Value.int IntKind.i64 z),PV.lit (Value.bool true)]) none)]):=by kernel_rfl
theorem Yd (k n m r:Nat) (c:Int) (cs ds cs0 es fs gs:List PV):ay MD t20 k 74 [.sl 1 n cs, .sl 1 m ds] [.c false, .i 17 (n+1:Nat), .c false, .f cs0, .l (.exit 0) ⟨[(0, .pv (.sl 1 n cs)),(1, .pv (.sl 1 m ds)),(5, .bs 18 0 1 (n+1)),(6, .pv (iv c)),(7, .pv (iv n)),(22, .pv (bv false))],[(18,es)],[],[]⟩, .j 52 n, .s fs, .m (.gs 0 r) fs, .f gs]=
 some (RV.mk (PV.sl 1 r gs) (some 1),[decide ((↑n:Int)<(↑m:Int))=false,IntKind.i64.wrap ((↑n:Int)+(1:Int))=(↑(n+(1:Nat)):Int),(0:Int)≤(↑(n+(1:Nat)):Int)∧(↑(n+(1:Nat)):Int)≤(↑(n+(1:Nat)):Int)∧(↑(n+(1:Nat)):Int)* (↑(MD.P.bytesOf (3:Nat)):Int)≤(↑room:Int)∧(↑(n+(1:Nat)):Int)≤(↑room:Int),decide ((↑(n+(1:Nat)):Int)=(0:Int))=false,iE [PV.lit (Value.int IntKind.i64 (0:Int))] (↑(n+(1:Nat)):Int).toNat cs0,aN MD t20 k (74:Nat) (0:Nat) (St.mk [(0,AV.pv (PV.sl 1 n cs)),(1,AV.pv (PV.sl 1 m ds)),(5,AV.bs 18 0 1 (↑(n+(1:Nat)):Int).toNat),(6,AV.pv (PV.lit (Value.int IntKind.i64 (0:Int)))),(7,AV.pv (PV.lit (Value.int IntKind.i64 (0:Int))))] [(18,cs0)] [] []) (Xt.exit 0) (St.mk [(0,AV.pv (PV.sl 1 n cs)),(1,AV.pv (PV.sl 1 m ds)),(5,AV.bs 18 0 1 (n+(1:Nat))),(6,AV.pv (PV.lit (Value.int IntKind.i64 c))),(7,AV.pv (PV.lit (Value.int IntKind.i64 (↑n:Int)))),(22,AV.pv (PV.lit (Value.bool false)))] [(18,es)] [] []),aG (↑n:Int) (n+(1:Nat)) n,(0:Nat)+n* (1:Nat)+(iv c).cells.length≤es.length,ck es ((0:Nat)+n* (1:Nat)) [PV.lit (Value.int IntKind.i64 c)] fs,cC t20 90 [MA.g fs 0 1 (n+(1:Nat))] (MR.gs 0 r) fs,de fs 0 (r* ((18:Nat),(1:Nat)).snd) gs]):=by kernel_rfl
theorem Ye (k n m r:Nat) (c:Int) (cs ds cs0 es fs gs:List PV):ay MD t20 k 74 [.sl 1 m ds, .sl 1 n cs] [.c true, .i 17 (n+1:Nat), .c false, .f cs0, .l (.exit 0) ⟨[(0, .pv (.sl 1 n cs)),(1, .pv (.sl 1 m ds)),(5, .bs 18 0 1 (n+1)),(6, .pv (iv c)),(7, .pv (iv n)),(22, .pv (bv false))],[(18,es)],[],[]⟩, .j 52 n, .s fs, .m (.gs 0 r) fs, .f gs]=
 some (RV.mk (PV.sl 1 r gs) (some 1),[decide ((↑m:Int)<(↑n:Int))=true,IntKind.i64.wrap ((↑n:Int)+(1:Int))=(↑(n+(1:Nat)):Int),(0:Int)≤(↑(n+(1:Nat)):Int)∧(↑(n+(1:Nat)):Int)≤(↑(n+(1:Nat)):Int)∧(↑(n+(1:Nat)):Int)* (↑(MD.P.bytesOf (3:Nat)):Int)≤(↑room:Int)∧(↑(n+(1:Nat)):Int)≤(↑room:Int),decide ((↑(n+(1:Nat)):Int)=(0:Int))=false,iE [PV.lit (Value.int IntKind.i64 (0:Int))] (↑(n+(1:Nat)):Int).toNat cs0,aN MD t20 k (74:Nat) (0:Nat) (St.mk [(0,AV.pv (PV.sl 1 n cs)),(1,AV.pv (PV.sl 1 m ds)),(5,AV.bs 18 0 1 (↑(n+(1:Nat)):Int).toNat),(6,AV.pv (PV.lit (Value.int IntKind.i64 (0:Int)))),(7,AV.pv (PV.lit (Value.int IntKind.i64 (0:Int))))] [(18,cs0)] [] []) (Xt.exit 0) (St.mk [(0,AV.pv (PV.sl 1 n cs)),(1,AV.pv (PV.sl 1 m ds)),(5,AV.bs 18 0 1 (n+(1:Nat))),(6,AV.pv (PV.lit (Value.int IntKind.i64 c))),(7,AV.pv (PV.lit (Value.int IntKind.i64 (↑n:Int)))),(22,AV.pv (PV.lit (Value.bool false)))] [(18,es)] [] []),aG (↑n:Int) (n+(1:Nat)) n,(0:Nat)+n* (1:Nat)+(iv c).cells.length≤es.length,ck es ((0:Nat)+n* (1:Nat)) [PV.lit (Value.int IntKind.i64 c)] fs,cC t20 90 [MA.g fs 0 1 (n+(1:Nat))] (MR.gs 0 r) fs,de fs 0 (r* ((18:Nat),(1:Nat)).snd) gs]):=by kernel_rfl
theorem S9 (k n m i x y:Nat) (c c1 c2 c3 d:Int) (cs ds es es':List PV):ak MD t20 k 74 0 ⟨[(0, .pv (.sl 1 n cs)),(1, .pv (.sl 1 m ds)),(5, .bs 18 0 1 (n+1)),(6, .pv (iv c)),(7, .pv (iv i))],[(18,es)],[],[]⟩ [.c true, .a 28 [iv x], .i 30 c1, .c true, .a 38 [iv y], .i 40 c2, .i 44 d, .j 45 i, .s es', .i 47 c3, .i 24 (i+1:Nat)]=
 some ((Xt.normal,St.mk [(0,AV.pv (PV.sl 1 n cs)),(1,AV.pv (PV.sl 1 m ds)),(5,AV.bs 18 0 1 (n+(1:Nat))),(6,AV.pv (PV.lit (Value.int IntKind.i64 c3))),(7,AV.pv (PV.lit (Value.int IntKind.i64 (↑(i+(1:Nat)):Int))))] [(18,es')] [] []),[],[decide ((↑i:Int)<(↑n:Int))=true,az cs 1 (↑i:Int) n [PV.lit (Value.int IntKind.i64 (↑x:Int))],IntKind.i64.wrap (c+(↑x:Int))=c1,decide ((↑i:Int)<(↑m:Int))=true,az ds 1 (↑i:Int) m [PV.lit (Value.int IntKind.i64 (↑y:Int))],IntKind.i64.wrap (c1+(↑y:Int))=c2,c2.tmod (16777216:Int)=d,false=false,aG (↑i:Int) (n+(1:Nat)) i,(0:Nat)+i* (1:Nat)+(PV.lit (Value.int IntKind.i64 d)).cells.length≤es.length,ck es ((0:Nat)+i* (1:Nat)) [PV.lit (Value.int IntKind.i64 d)] es',IntKind.i64.wrap (c2.tdiv (16777216:Int))=c3,false=false,IntKind.i64.wrap ((↑i:Int)+(1:Int))=(↑(i+(1:Nat)):Int)]):=by kernel_rfl
theorem Ta (k n m i x:Nat) (c c1 c3 d:Int) (cs ds es es':List PV):ak MD t20 k 74 0 ⟨[(0, .pv (.sl 1 n cs)),(1, .pv (.sl 1 m ds)),(5, .bs 18 0 1 (n+1)),(6, .pv (iv c)),(7, .pv (iv i))],[(18,es)],[],[]⟩ [.c true, .a 28 [iv x], .i 30 c1, .c false, .i 44 d, .j 45 i, .s es', .i 47 c3, .i 24 (i+1:Nat)]=
 some ((Xt.normal,St.mk [(0,AV.pv (PV.sl 1 n cs)),(1,AV.pv (PV.sl 1 m ds)),(5,AV.bs 18 0 1 (n+(1:Nat))),(6,AV.pv (PV.lit (Value.int IntKind.i64 c3))),(7,AV.pv (PV.lit (Value.int IntKind.i64 (↑(i+(1:Nat)):Int))))] [(18,es')] [] []),[],[decide ((↑i:Int)<(↑n:Int))=true,az cs 1 (↑i:Int) n [PV.lit (Value.int IntKind.i64 (↑x:Int))],IntKind.i64.wrap (c+(↑x:Int))=c1,decide ((↑i:Int)<(↑m:Int))=false,c1.tmod (16777216:Int)=d,false=false,aG (↑i:Int) (n+(1:Nat)) i,(0:Nat)+i* (1:Nat)+(PV.lit (Value.int IntKind.i64 d)).cells.length≤es.length,ck es ((0:Nat)+i* (1:Nat)) [PV.lit (Value.int IntKind.i64 d)] es',IntKind.i64.wrap (c1.tdiv (16777216:Int))=c3,false=false,IntKind.i64.wrap ((↑i:Int)+(1:Int))=(↑(i+(1:Nat)):Int)]):=by kernel_rfl
theorem Tb (k n m i:Nat) (c:Int) (cs ds es:List PV):ak MD t20 k 74 0 ⟨[(0, .pv (.sl 1 n cs)),(1, .pv (.sl 1 m ds)),(5, .bs 18 0 1 (n+1)),(6, .pv (iv c)),(7, .pv (iv i))],[(18,es)],[],[]⟩ [.c false]=
 some ((Xt.exit 0,St.mk [(0,AV.pv (PV.sl 1 n cs)),(1,AV.pv (PV.sl 1 m ds)),(5,AV.bs 18 0 1 (n+(1:Nat))),(6,AV.pv (PV.lit (Value.int IntKind.i64 c))),(7,AV.pv (PV.lit (Value.int IntKind.i64 (↑i:Int)))),(22,AV.pv (PV.lit (Value.bool false)))] [(18,es)] [] []),[],[decide ((↑i:Int)<(↑n:Int))=false]):=by kernel_rfl
theorem XL (k n m r:Nat) (c:Int) (cs ds cs0 es gs:List PV):ay MD t20 k 77 [.sl 1 n cs, .sl 1 m ds] [.c false, .f cs0, .l (.exit 0) ⟨[(0, .pv (.sl 1 n cs)),(1, .pv (.sl 1 m ds)),(5, .bs 11 0 1 n),(6, .pv (iv c)),(7, .pv (iv n)),(15, .pv (bv false))],[(11,es)],[],[]⟩, .m (.gs 0 r) es, .f gs]=
 some (RV.mk (PV.sl 1 r gs) (some 1),[(0:Int)≤(↑n:Int)∧(↑n:Int)≤(↑n:Int)∧(↑n:Int)* (↑(MD.P.bytesOf (3:Nat)):Int)≤(↑room:Int)∧(↑n:Int)≤(↑room:Int),decide ((↑n:Int)=(0:Int))=false,iE [PV.lit (Value.int IntKind.i64 (0:Int))] n cs0,aN MD t20 k (77:Nat) (0:Nat) (St.mk [(0,AV.pv (PV.sl 1 n cs)),(1,AV.pv (PV.sl 1 m ds)),(5,AV.bs 11 0 1 n),(6,AV.pv (PV.lit (Value.int IntKind.i64 (0:Int)))),(7,AV.pv (PV.lit (Value.int IntKind.i64 (0:Int))))] [(11,cs0)] [] []) (Xt.exit 0) (St.mk [(0,AV.pv (PV.sl 1 n cs)),(1,AV.pv (PV.sl 1 m ds)),(5,AV.bs 11 0 1 n),(6,AV.pv (PV.lit (Value.int IntKind.i64 c))),(7,AV.pv (PV.lit (Value.int IntKind.i64 (↑n:Int)))),(15,AV.pv (PV.lit (Value.bool false)))] [(11,es)] [] []),cC t20 90 [MA.g es 0 1 n] (MR.gs 0 r) es,de es 0 (r* ((11:Nat),(1:Nat)).snd) gs]):=by kernel_rfl
theorem SA (k n m i x y:Nat) (c c1 c2:Int) (cs ds es es':List PV):ak MD t20 k 77 0 ⟨[(0, .pv (.sl 1 n cs)),(1, .pv (.sl 1 m ds)),(5, .bs 11 0 1 n),(6, .pv (iv c)),(7, .pv (iv i))],[(11,es)],[],[]⟩ [.c true, .a 20 [iv x], .i 23 c1, .c true, .a 31 [iv y], .i 33 c2, .c false, .j 41 i, .s es', .i 17 (i+1:Nat)]=
 some ((Xt.normal,St.mk [(0,AV.pv (PV.sl 1 n cs)),(1,AV.pv (PV.sl 1 m ds)),(5,AV.bs 11 0 1 n),(6,AV.pv (PV.lit (Value.int IntKind.i64 (0:Int)))),(7,AV.pv (PV.lit (Value.int IntKind.i64 (↑(i+(1:Nat)):Int))))] [(11,es')] [] []),[],[decide ((↑i:Int)<(↑n:Int))=true,az cs 1 (↑i:Int) n [PV.lit (Value.int IntKind.i64 (↑x:Int))],IntKind.i64.wrap ((↑x:Int) - c)=c1,decide ((↑i:Int)<(↑m:Int))=true,az ds 1 (↑i:Int) m [PV.lit (Value.int IntKind.i64 (↑y:Int))],IntKind.i64.wrap (c1 - (↑y:Int))=c2,decide (c2<(0:Int))=false,aG (↑i:Int) n i,(0:Nat)+i* (1:Nat)+(PV.lit (Value.int IntKind.i64 c2)).cells.length≤es.length,ck es ((0:Nat)+i* (1:Nat)) [PV.lit (Value.int IntKind.i64 c2)] es',IntKind.i64.wrap ((↑i:Int)+(1:Int))=(↑(i+(1:Nat)):Int)]):=by kernel_rfl
theorem SB (k n m i x y:Nat) (c c1 c2 c3:Int) (cs ds es es':List PV):ak MD t20 k 77 0 ⟨[(0, .pv (.sl 1 n cs)),(1, .pv (.sl 1 m ds)),(5, .bs 11 0 1 n),(6, .pv (iv c)),(7, .pv (iv i))],[(11,es)],[],[]⟩ [.c true, .a 20 [iv x], .i 23 c1, .c true, .a 31 [iv y], .i 33 c2, .c true, .i 37 c3, .j 41 i, .s es', .i 17 (i+1:Nat)]=
 some ((Xt.normal,St.mk [(0,AV.pv (PV.sl 1 n cs)),(1,AV.pv (PV.sl 1 m ds)),(5,AV.bs 11 0 1 n),(6,AV.pv (PV.lit (Value.int IntKind.i64 (1:Int)))),(7,AV.pv (PV.lit (Value.int IntKind.i64 (↑(i+(1:Nat)):Int))))] [(11,es')] [] []),[],[decide ((↑i:Int)<(↑n:Int))=true,az cs 1 (↑i:Int) n [PV.lit (Value.int IntKind.i64 (↑x:Int))],IntKind.i64.wrap ((↑x:Int) - c)=c1,decide ((↑i:Int)<(↑m:Int))=true,az ds 1 (↑i:Int) m [PV.lit (Value.int IntKind.i64 (↑y:Int))],IntKind.i64.wrap (c1 - (↑y:Int))=c2,decide (c2<(0:Int))=true,IntKind.i64.wrap (c2+(16777216:Int))=c3,aG (↑i:Int) n i,(0:Nat)+i* (1:Nat)+(PV.lit (Value.int IntKind.i64 c3)).cells.length≤es.length,ck es ((0:Nat)+i* (1:Nat)) [PV.lit (Value.int IntKind.i64 c3)] es',IntKind.i64.wrap ((↑i:Int)+(1:Int))=(↑(i+(1:Nat)):Int)]):=by kernel_rfl
theorem SD (k n m i x:Nat) (c c1:Int) (cs ds es es':List PV):ak MD t20 k 77 0 ⟨[(0, .pv (.sl 1 n cs)),(1, .pv (.sl 1 m ds)),(5, .bs 11 0 1 n),(6, .pv (iv c)),(7, .pv (iv i))],[(11,es)],[],[]⟩ [.c true, .a 20 [iv x], .i 23 c1, .c false, .c false, .j 41 i, .s es', .i 17 (i+1:Nat)]=
 some ((Xt.normal,St.mk [(0,AV.pv (PV.sl 1 n cs)),(1,AV.pv (PV.sl 1 m ds)),(5,AV.bs 11 0 1 n),(6,AV.pv (PV.lit (Value.int IntKind.i64 (0:Int)))),(7,AV.pv (PV.lit (Value.int IntKind.i64 (↑(i+(1:Nat)):Int))))] [(11,es')] [] []),[],[decide ((↑i:Int)<(↑n:Int))=true,az cs 1 (↑i:Int) n [PV.lit (Value.int IntKind.i64 (↑x:Int))],IntKind.i64.wrap ((↑x:Int) - c)=c1,decide ((↑i:Int)<(↑m:Int))=false,decide (c1<(0:Int))=false,aG (↑i:Int) n i,(0:Nat)+i* (1:Nat)+(PV.lit (Value.int IntKind.i64 c1)).cells.length≤es.length,ck es ((0:Nat)+i* (1:Nat)) [PV.lit (Value.int IntKind.i64 c1)] es',IntKind.i64.wrap ((↑i:Int)+(1:Int))=(↑(i+(1:Nat)):Int)]):=by kernel_rfl
theorem SE (k n m i x:Nat) (c c1 c3:Int) (cs ds es es':List PV):ak MD t20 k 77 0 ⟨[(0, .pv (.sl 1 n cs)),(1, .pv (.sl 1 m ds)),(5, .bs 11 0 1 n),(6, .pv (iv c)),(7, .pv (iv i))],[(11,es)],[],[]⟩ [.c true, .a 20 [iv x], .i 23 c1, .c false, .c true, .i 37 c3, .j 41 i, .s es', .i 17 (i+1:Nat)]=
 some ((Xt.normal,St.mk [(0,AV.pv (PV.sl 1 n cs)),(1,AV.pv (PV.sl 1 m ds)),(5,AV.bs 11 0 1 n),(6,AV.pv (PV.lit (Value.int IntKind.i64 (1:Int)))),(7,AV.pv (PV.lit (Value.int IntKind.i64 (↑(i+(1:Nat)):Int))))] [(11,es')] [] []),[],[decide ((↑i:Int)<(↑n:Int))=true,az cs 1 (↑i:Int) n [PV.lit (Value.int IntKind.i64 (↑x:Int))],IntKind.i64.wrap ((↑x:Int) - c)=c1,decide ((↑i:Int)<(↑m:Int))=false,decide (c1<(0:Int))=true,IntKind.i64.wrap (c1+(16777216:Int))=c3,aG (↑i:Int) n i,(0:Nat)+i* (1:Nat)+(PV.lit (Value.int IntKind.i64 c3)).cells.length≤es.length,ck es ((0:Nat)+i* (1:Nat)) [PV.lit (Value.int IntKind.i64 c3)] es',IntKind.i64.wrap ((↑i:Int)+(1:Int))=(↑(i+(1:Nat)):Int)]):=by kernel_rfl
theorem SF (k n m i:Nat) (c:Int) (cs ds es:List PV):ak MD t20 k 77 0 ⟨[(0, .pv (.sl 1 n cs)),(1, .pv (.sl 1 m ds)),(5, .bs 11 0 1 n),(6, .pv (iv c)),(7, .pv (iv i))],[(11,es)],[],[]⟩ [.c false]=
 some ((Xt.exit 0,St.mk [(0,AV.pv (PV.sl 1 n cs)),(1,AV.pv (PV.sl 1 m ds)),(5,AV.bs 11 0 1 n),(6,AV.pv (PV.lit (Value.int IntKind.i64 c))),(7,AV.pv (PV.lit (Value.int IntKind.i64 (↑i:Int)))),(15,AV.pv (PV.lit (Value.bool false)))] [(11,es)] [] []),[],[decide ((↑i:Int)<(↑n:Int))=false]):=by kernel_rfl
theorem Y8 (k n r:Nat) (c b:Int) (cs cs0 es fs gs:List PV):ay MD t20 k 78 [.sl 1 n cs,iv b] [.i 10 (n+1:Nat), .c false, .f cs0, .l (.exit 0) ⟨[(0, .pv (.sl 1 n cs)),(5, .bs 11 0 1 (n+1)),(6, .pv (iv c)),(7, .pv (iv n)),(16, .pv (bv false))],[(11,es)],[],[]⟩, .j 37 n, .s fs, .m (.gs 0 r) fs, .f gs]=
 some (RV.mk (PV.sl 1 r gs) (some 1),[IntKind.i64.wrap ((↑n:Int)+(1:Int))=(↑(n+(1:Nat)):Int),(0:Int)≤(↑(n+(1:Nat)):Int)∧(↑(n+(1:Nat)):Int)≤(↑(n+(1:Nat)):Int)∧(↑(n+(1:Nat)):Int)* (↑(MD.P.bytesOf (3:Nat)):Int)≤(↑room:Int)∧(↑(n+(1:Nat)):Int)≤(↑room:Int),decide ((↑(n+(1:Nat)):Int)=(0:Int))=false,iE [PV.lit (Value.int IntKind.i64 (0:Int))] (↑(n+(1:Nat)):Int).toNat cs0,aN MD t20 k (78:Nat) (0:Nat) (St.mk [(0,AV.pv (PV.sl 1 n cs)),(5,AV.bs 11 0 1 (↑(n+(1:Nat)):Int).toNat),(6,AV.pv (PV.lit (Value.int IntKind.i64 b))),(7,AV.pv (PV.lit (Value.int IntKind.i64 (0:Int))))] [(11,cs0)] [] []) (Xt.exit 0) (St.mk [(0,AV.pv (PV.sl 1 n cs)),(5,AV.bs 11 0 1 (n+(1:Nat))),(6,AV.pv (PV.lit (Value.int IntKind.i64 c))),(7,AV.pv (PV.lit (Value.int IntKind.i64 (↑n:Int)))),(16,AV.pv (PV.lit (Value.bool false)))] [(11,es)] [] []),aG (↑n:Int) (n+(1:Nat)) n,(0:Nat)+n* (1:Nat)+(iv c).cells.length≤es.length,ck es ((0:Nat)+n* (1:Nat)) [PV.lit (Value.int IntKind.i64 c)] fs,cC t20 90 [MA.g fs 0 1 (n+(1:Nat))] (MR.gs 0 r) fs,de fs 0 (r* ((11:Nat),(1:Nat)).snd) gs]):=by kernel_rfl
theorem Ue (k n i x:Nat) (c c1 c2 c3 d:Int) (cs es es':List PV):ak MD t20 k 78 0 ⟨[(0, .pv (.sl 1 n cs)),(5, .bs 11 0 1 (n+1)),(6, .pv (iv c)),(7, .pv (iv i))],[(11,es)],[],[]⟩ [.c true, .a 22 [iv x], .i 24 c1, .i 25 c2, .i 29 d, .j 30 i, .s es', .i 32 c3, .i 18 (i+1:Nat)]=
 some ((Xt.normal,St.mk [(0,AV.pv (PV.sl 1 n cs)),(5,AV.bs 11 0 1 (n+(1:Nat))),(6,AV.pv (PV.lit (Value.int IntKind.i64 c3))),(7,AV.pv (PV.lit (Value.int IntKind.i64 (↑(i+(1:Nat)):Int))))] [(11,es')] [] []),[],[decide ((↑i:Int)<(↑n:Int))=true,az cs 1 (↑i:Int) n [PV.lit (Value.int IntKind.i64 (↑x:Int))],IntKind.i64.wrap ((2:Int)* (↑x:Int))=c1,IntKind.i64.wrap (c+c1)=c2,c2.tmod (16777216:Int)=d,false=false,aG (↑i:Int) (n+(1:Nat)) i,(0:Nat)+i* (1:Nat)+(PV.lit (Value.int IntKind.i64 d)).cells.length≤es.length,ck es ((0:Nat)+i* (1:Nat)) [PV.lit (Value.int IntKind.i64 d)] es',IntKind.i64.wrap (c2.tdiv (16777216:Int))=c3,false=false,IntKind.i64.wrap ((↑i:Int)+(1:Int))=(↑(i+(1:Nat)):Int)]):=by kernel_rfl
theorem Uf (k n i:Nat) (c:Int) (cs es:List PV):ak MD t20 k 78 0 ⟨[(0, .pv (.sl 1 n cs)),(5, .bs 11 0 1 (n+1)),(6, .pv (iv c)),(7, .pv (iv i))],[(11,es)],[],[]⟩ [.c false]=
 some ((Xt.exit 0,St.mk [(0,AV.pv (PV.sl 1 n cs)),(5,AV.bs 11 0 1 (n+(1:Nat))),(6,AV.pv (PV.lit (Value.int IntKind.i64 c))),(7,AV.pv (PV.lit (Value.int IntKind.i64 (↑i:Int)))),(16,AV.pv (PV.lit (Value.bool false)))] [(11,es)] [] []),[],[decide ((↑i:Int)<(↑n:Int))=false]):=by kernel_rfl
theorem X6 (k n m:Nat) (cs ds:List PV):ay MD t0 k 76 [.sl 1 n cs, .sl 1 m ds] [.c true, .c true]=
 some (RV.mk (PV.lit (Value.int IntKind.i64 (-1:Int))) none,[((↑n:Int) !=(↑m:Int))=true,decide ((↑n:Int)<(↑m:Int))=true]):=by kernel_rfl
theorem X7 (k n m:Nat) (cs ds:List PV):ay MD t0 k 76 [.sl 1 n cs, .sl 1 m ds] [.c true, .c false]=
 some (RV.mk (PV.lit (Value.int IntKind.i64 (1:Int))) none,[((↑n:Int) !=(↑m:Int))=true,decide ((↑n:Int)<(↑m:Int))=false]):=by kernel_rfl
theorem Q5 (k n m:Nat) (cs ds:List PV) (i r:Int):ay MD t0 k 76 [.sl 1 n cs, .sl 1 m ds] [.c false, .i 18 i, .l .ret ⟨[(4, .pv (iv r))],[],[],[]⟩]=
 some (RV.mk (PV.lit (Value.int IntKind.i64 r)) none,[((↑n:Int) !=(↑m:Int))=false,IntKind.i64.wrap ((↑n:Int) - (1:Int))=i,aN MD t0 k (76:Nat) (0:Nat) (St.mk [(0,AV.pv (PV.sl 1 n cs)),(1,AV.pv (PV.sl 1 m ds)),(5,AV.pv (PV.lit (Value.int IntKind.i64 i)))] [] [] []) Xt.ret (St.mk [(4,AV.pv (PV.lit (Value.int IntKind.i64 r)))] [] [] [])]):=by kernel_rfl
theorem X8 (k n m:Nat) (cs ds:List PV) (i:Int):ay MD t0 k 76 [.sl 1 n cs, .sl 1 m ds] [.c false, .i 18 i, .l (.exit 0) ⟨[(0, .pv (.sl 1 n cs)),(1, .pv (.sl 1 m ds)),(5, .pv (iv (-1))),(20, .pv (bv false))],[],[],[]⟩]=
 some (RV.mk (PV.lit (Value.int IntKind.i64 (0:Int))) none,[((↑n:Int) !=(↑m:Int))=false,IntKind.i64.wrap ((↑n:Int) - (1:Int))=i,aN MD t0 k (76:Nat) (0:Nat) (St.mk [(0,AV.pv (PV.sl 1 n cs)),(1,AV.pv (PV.sl 1 m ds)),(5,AV.pv (PV.lit (Value.int IntKind.i64 i)))] [] [] []) (Xt.exit 0) (St.mk [(0,AV.pv (PV.sl 1 n cs)),(1,AV.pv (PV.sl 1 m ds)),(5,AV.pv (PV.lit (Value.int IntKind.i64 (-1:Int)))),(20,AV.pv (PV.lit (Value.bool false)))] [] [] [])]):=by kernel_rfl
theorem SZ (k n m:Nat) (cs ds:List PV) (i:Int):ak MD t0 k 76 0 ⟨[(0, .pv (.sl 1 n cs)),(1, .pv (.sl 1 m ds)),(5, .pv (iv i))],[],[],[]⟩ [.c false]=
 some ((Xt.exit 0,St.mk [(0,AV.pv (PV.sl 1 n cs)),(1,AV.pv (PV.sl 1 m ds)),(5,AV.pv (PV.lit (Value.int IntKind.i64 i))),(20,AV.pv (PV.lit (Value.bool false)))] [] [] []),[],[decide (i≥(0:Int))=false]):=by kernel_rfl
theorem S0 (k n m x y:Nat) (cs ds:List PV) (i j:Int):ak MD t0 k 76 0 ⟨[(0, .pv (.sl 1 n cs)),(1, .pv (.sl 1 m ds)),(5, .pv (iv i))],[],[],[]⟩ [.c true, .a 25 [iv x], .a 29 [iv y], .c false, .i 22 j]=
 some ((Xt.normal,St.mk [(0,AV.pv (PV.sl 1 n cs)),(1,AV.pv (PV.sl 1 m ds)),(5,AV.pv (PV.lit (Value.int IntKind.i64 j)))] [] [] []),[],[decide (i≥(0:Int))=true,az cs 1 i n [PV.lit (Value.int IntKind.i64 (↑x:Int))],az ds 1 i m [PV.lit (Value.int IntKind.i64 (↑y:Int))],((↑x:Int) !=(↑y:Int))=false,IntKind.i64.wrap (i - (1:Int))=j]):=by kernel_rfl
theorem S3 (k n m x y:Nat) (cs ds:List PV) (i:Int):ak MD t0 k 76 0 ⟨[(0, .pv (.sl 1 n cs)),(1, .pv (.sl 1 m ds)),(5, .pv (iv i))],[],[],[]⟩ [.c true, .a 25 [iv x], .a 29 [iv y], .c true, .a 34 [iv x], .a 38 [iv y], .c true]=
 some ((Xt.ret,St.mk [(4,AV.pv (PV.lit (Value.int IntKind.i64 (-1:Int))))] [] [] []),[],[decide (i≥(0:Int))=true,az cs 1 i n [PV.lit (Value.int IntKind.i64 (↑x:Int))],az ds 1 i m [PV.lit (Value.int IntKind.i64 (↑y:Int))],((↑x:Int) !=(↑y:Int))=true,az cs 1 i n [PV.lit (Value.int IntKind.i64 (↑x:Int))],az ds 1 i m [PV.lit (Value.int IntKind.i64 (↑y:Int))],decide ((↑x:Int)<(↑y:Int))=true]):=by kernel_rfl
theorem S4 (k n m x y:Nat) (cs ds:List PV) (i:Int):ak MD t0 k 76 0 ⟨[(0, .pv (.sl 1 n cs)),(1, .pv (.sl 1 m ds)),(5, .pv (iv i))],[],[],[]⟩ [.c true, .a 25 [iv x], .a 29 [iv y], .c true, .a 34 [iv x], .a 38 [iv y], .c false]=
 some ((Xt.ret,St.mk [(4,AV.pv (PV.lit (Value.int IntKind.i64 (1:Int))))] [] [] []),[],[decide (i≥(0:Int))=true,az cs 1 i n [PV.lit (Value.int IntKind.i64 (↑x:Int))],az ds 1 i m [PV.lit (Value.int IntKind.i64 (↑y:Int))],((↑x:Int) !=(↑y:Int))=true,az cs 1 i n [PV.lit (Value.int IntKind.i64 (↑x:Int))],az ds 1 i m [PV.lit (Value.int IntKind.i64 (↑y:Int))],decide ((↑x:Int)<(↑y:Int))=false]):=by kernel_rfl
theorem so:aP MD.P t20:=j3 aL (gm Gz jf)
theorem qo {n v:Nat} (hn:n<2^40) (h:v<(16777216:Nat)^n):cC t20 90 [.g ((fd (16777216:Nat) n v).map aJ) 0 1 n] (.gs 0 (dg (16777216:Nat) v).length) ((fd (16777216:Nat) n v).map aJ):=by
 have:=yo (p:=[]) (l:=fd (16777216:Nat) n v) (by rw [cn];exact hn) (ig (by decide) _ _)
 rw [lY (by decide),Nat.mod_eq_of_lt h,cn] at this
 exact this
theorem td {n:Nat} (h:n<2^41):(0:Int)≤(n:Int)∧(n:Int)≤(n:Int)∧(n:Int)* ((MD.P.bytesOf 3:Nat):Int)≤((room:Nat):Int)∧(n:Int)≤((room:Nat):Int):=by
 rw [EA]
 have:((room:Nat):Int)=140737488355328:=rfl
 omega
def SP (a b n m i:Nat) (e:List (Nat×AV)):St:=⟨(0, .pv (.sl 1 n ((dg (16777216:Nat) a).map aJ)))::(1, .pv (.sl 1 m ((dg (16777216:Nat) b).map aJ)))::(5, .bs 18 0 1 (n+1))::(6, .pv (iv ((a+b) / (16777216:Nat)^i - a / (16777216:Nat)^i - b / (16777216:Nat)^i:Nat)))::(7, .pv (iv i))::e,[(18,(dH (16777216:Nat) (n+1) i (a+b)).map aJ)],[],[]⟩
theorem Ii (k a b n m i:Nat) (hn:n=(dg (16777216:Nat) a).length) (hm:m=(dg (16777216:Nat) b).length) (hi:i<n) (hs:n<2^40):aI MD t20 k 74 0 (SP a b n m i [])=some (.normal,SP a b n m (i+1) []):=by
 have hx:=ru (b:=(16777216:Nat)) (v:=a) (by decide) (i:=i) (by omega)
 have hc:=y9 a b i
 have s1:=eN a (16777216:Nat) i
 have s2:=eN b (16777216:Nat) i
 have s3:=eN (a+b) (16777216:Nat) i
 have hstep:=nh (b:=(16777216:Nat)) (n:=n+1) (i:=i) (v:=a+b) (by omega)
 have hsp:ck ((dH (16777216:Nat) (n+1) i (a+b)).map aJ) (0+i* 1) [aJ ((a+b) / (16777216:Nat)^i%(16777216:Nat))] ((dH (16777216:Nat) (n+1) (i+1) (a+b)).map aJ):=mN hstep (by rw [ir (by omega)];omega) (by omega)
 have hle:0+i* 1+(aJ ((a+b) / (16777216:Nat)^i%(16777216:Nat))).cells.length≤((dH (16777216:Nat) (n+1) i (a+b)).map aJ).length:=by
  rw [List.length_map,ir (by omega)];show _+1≤_;omega
 have kq:az ((dg (16777216:Nat) a).map aJ) 1 (i:Int) n [aJ (a / (16777216:Nat)^i%(16777216:Nat))]:=by rw [hn];exact jW hx rfl
 unfold SP
 rw [s1,s2,s3]
 generalize hu:a / (16777216:Nat)^i=u at*
 generalize hv:b / (16777216:Nat)^i=v at*
 generalize hw:(a+b) / (16777216:Nat)^i=w at*
 obtain ⟨x,hx0⟩:∃x,x=u%(16777216:Nat):=⟨_,rfl⟩
 obtain ⟨y,hy0⟩:∃y,y=v%(16777216:Nat):=⟨_,rfl⟩
 rw [←hx0] at kq
 obtain ⟨c,hc0⟩:∃c,c=w - u - v:=⟨_,rfl⟩
 by_cases Fm:i<m
 · have hy:=ru (b:=(16777216:Nat)) (v:=b) (by decide) (i:=i) (by omega)
   rw [hv,←hy0] at hy
   have iG:az ((dg (16777216:Nat) b).map aJ) 1 (i:Int) m [aJ y]:=by rw [hm];exact jW hy rfl
   have e1:(c+x+y)%(16777216:Nat)=w%(16777216:Nat):=by omega
   have e2:(c+x+y) / (16777216:Nat)=w / (16777216:Nat) - u / (16777216:Nat) - v / (16777216:Nat):=by omega
   have key:=S9 k n m i x y (c:Nat) ((c+x:Nat):Int) ((c+x+y:Nat):Int) ((w / (16777216:Nat) - u / (16777216:Nat) - v / (16777216:Nat):Nat):Int) ((w%(16777216:Nat):Nat):Int) ((dg (16777216:Nat) a).map aJ) ((dg (16777216:Nat) b).map aJ) ((dH (16777216:Nat) (n+1) i (a+b)).map aJ) ((dH (16777216:Nat) (n+1) (i+1) (a+b)).map aJ)
   rw [←hc0]
   exact af key ⟨decide_eq_true (by omega),kq,bn (by omega) (by omega),decide_eq_true (by omega),iG,bn (by omega) (by omega),by rw [←e1];exact fy _ _,rfl,⟨rfl,by omega⟩,hle,hsp,by rw [←e2];exact bn (ia _ _) (by omega),rfl,bn (by omega) (by omega),trivial⟩
 · have hy:=uN (b:=(16777216:Nat)) (v:=b) (by decide) (i:=i) (by omega)
   rw [hv] at hy
   have e1:(c+x)%(16777216:Nat)=w%(16777216:Nat):=by omega
   have e2:(c+x) / (16777216:Nat)=w / (16777216:Nat) - u / (16777216:Nat) - v / (16777216:Nat):=by omega
   have key:=Ta k n m i x (c:Nat) ((c+x:Nat):Int) ((w / (16777216:Nat) - u / (16777216:Nat) - v / (16777216:Nat):Nat):Int) ((w%(16777216:Nat):Nat):Int) ((dg (16777216:Nat) a).map aJ) ((dg (16777216:Nat) b).map aJ) ((dH (16777216:Nat) (n+1) i (a+b)).map aJ) ((dH (16777216:Nat) (n+1) (i+1) (a+b)).map aJ)
   rw [←hc0]
   exact af key ⟨decide_eq_true (by omega),kq,bn (by omega) (by omega),decide_eq_false (by omega),by rw [←e1];exact fy _ _,rfl,⟨rfl,by omega⟩,hle,hsp,by rw [←e2];exact bn (ia _ _) (by omega),rfl,bn (by omega) (by omega),trivial⟩
theorem Ct (k a b n m:Nat) (hn:n=(dg (16777216:Nat) a).length) (hm:m=(dg (16777216:Nat) b).length) (hk:n<k) (hs:n<2^40):aR (aI MD t20 k 74 0) k (SP a b n m 0 [])=some (.exit 0,SP a b n m n [(22, .pv (bv false))]):=
 cK (f:=aI MD t20 k 74 0) (S:=fun i=>SP a b n m i []) (n:=n) (fun i hi=>Ii k a b n m i hn hm hi hs)
  (af (Tb k n m n ((a+b) / (16777216:Nat)^n - a / (16777216:Nat)^n - b / (16777216:Nat)^n:Nat) ((dg (16777216:Nat) a).map aJ) ((dg (16777216:Nat) b).map aJ) ((dH (16777216:Nat) (n+1) n (a+b)).map aJ)) ⟨decide_eq_false (by omega),trivial⟩) (by simp) k hk
theorem Iw (a b:Nat) (ha:(dg (16777216:Nat) a).length<2^39) (hb:(dg (16777216:Nat) b).length<2^39):aA P0 74 [ni (dg (16777216:Nat) a),ni (dg (16777216:Nat) b)] ⟨ni (dg (16777216:Nat) (a+b)),some 1⟩:=by
 have key:∀a b n m:Nat,n=(dg (16777216:Nat) a).length→m=(dg (16777216:Nat) b).length→n<2^39→m≤n→
   a+b<(16777216:Nat)^(n+1)∧ck ((dH (16777216:Nat) (n+1) n (a+b)).map aJ) (0+n* 1) [iv ((a+b) / (16777216:Nat)^n - a / (16777216:Nat)^n - b / (16777216:Nat)^n:Nat)] ((fd (16777216:Nat) (n+1) (a+b)).map aJ)∧0+n* 1+(iv ((a+b) / (16777216:Nat)^n - a / (16777216:Nat)^n - b / (16777216:Nat)^n:Nat)).cells.length≤((dH (16777216:Nat) (n+1) n (a+b)).map aJ).length:=by
  intro a b n m hn hm hs hmn
  have h1:=eG (b:=(16777216:Nat)) (n:=a) (by decide)
  have h2:=eG (b:=(16777216:Nat)) (n:=b) (by decide)
  have h3:(16777216:Nat)^(dg (16777216:Nat) b).length≤(16777216:Nat)^n:=Nat.pow_le_pow_right (by decide) (by omega)
  rw [←hn] at h1
  have hlt:a+b<(16777216:Nat)^(n+1):=by rw [Nat.pow_succ];omega
  have z1:=uN (b:=(16777216:Nat)) (v:=a) (i:=n) (by decide) (by omega)
  have z2:=uN (b:=(16777216:Nat)) (v:=b) (i:=n) (by decide) (by omega)
  have hc:=y9 a b n
  rw [z1,z2,Nat.sub_zero,Nat.sub_zero]
  rw [z1,z2] at hc
  have hstep:=nh (b:=(16777216:Nat)) (n:=n+1) (i:=n) (v:=a+b) (by omega)
  rw [wU,Nat.mod_eq_of_lt (by omega)] at hstep
  refine ⟨hlt,mN (c:=aJ) hstep (by rw [ir (by omega)];omega) (by omega), ?_⟩
  rw [List.length_map,ir (by omega)];show _+1≤_;omega
 have fin:∀v n:Nat,v<(16777216:Nat)^(n+1)→de ((fd (16777216:Nat) (n+1) v).map aJ) 0 ((dg (16777216:Nat) v).length* 1) ((dg (16777216:Nat) v).map aJ):=fun v n h=>pq _ _ _ (by rw [List.drop_zero,Nat.mul_one];exact ud (by decide) h)
 obtain ⟨k,hk⟩:∃k,k=(dg (16777216:Nat) a).length+(dg (16777216:Nat) b).length+1:=⟨_,rfl⟩
 by_cases h:(dg (16777216:Nat) a).length<(dg (16777216:Nat) b).length
 · obtain ⟨k1,k2,k3⟩:=key b a _ _ rfl rfl hb (by omega)
   have lp:=Ct k b a _ _ rfl rfl (by omega) (by omega)
   have z:=lE (c:=aJ) (n:=(dg (16777216:Nat) b).length+1)
   rw [←pX (16777216:Nat) ((dg (16777216:Nat) b).length+1) (b+a)] at z
   have tr:=qo (n:=(dg (16777216:Nat) b).length+1) (v:=b+a) (by omega) k1
   rw [Nat.add_comm a b]
   have c0:((b+a) / (16777216:Nat)^0 - b / (16777216:Nat)^0 - a / (16777216:Nat)^0:Nat)=0:=by simp
   unfold SP at lp
   rw [c0] at lp
   exact ai ah so (by rfl) (Ye k _ _ _ _ _ _ ((dH (16777216:Nat) ((dg (16777216:Nat) b).length+1) 0 (b+a)).map aJ) _ ((fd (16777216:Nat) ((dg (16777216:Nat) b).length+1) (b+a)).map aJ) _) ⟨decide_eq_true (by omega),bn (by omega) (by omega),td (by omega),decide_eq_false (by omega),z,lp,⟨rfl,by omega⟩,k3,k2,tr,fin _ _ k1,trivial⟩
 · obtain ⟨k1,k2,k3⟩:=key a b _ _ rfl rfl ha (by omega)
   have lp:=Ct k a b _ _ rfl rfl (by omega) (by omega)
   have z:=lE (c:=aJ) (n:=(dg (16777216:Nat) a).length+1)
   rw [←pX (16777216:Nat) ((dg (16777216:Nat) a).length+1) (a+b)] at z
   have tr:=qo (n:=(dg (16777216:Nat) a).length+1) (v:=a+b) (by omega) k1
   have c0:((a+b) / (16777216:Nat)^0 - a / (16777216:Nat)^0 - b / (16777216:Nat)^0:Nat)=0:=by simp
   unfold SP at lp
   rw [c0] at lp
   exact ai ah so (by rfl) (Yd k _ _ _ _ _ _ ((dH (16777216:Nat) ((dg (16777216:Nat) a).length+1) 0 (a+b)).map aJ) _ ((fd (16777216:Nat) ((dg (16777216:Nat) a).length+1) (a+b)).map aJ) _) ⟨decide_eq_false (by omega),bn (by omega) (by omega),td (by omega),decide_eq_false (by omega),z,lp,⟨rfl,by omega⟩,k3,k2,tr,fin _ _ k1,trivial⟩
def SM (v b n m i:Nat) (e:List (Nat×AV)):St:=⟨(0, .pv (.sl 1 n ((dg (16777216:Nat) (b+v)).map aJ)))::(1, .pv (.sl 1 m ((dg (16777216:Nat) b).map aJ)))::(5, .bs 11 0 1 n)::(6, .pv (iv ((b+v) / (16777216:Nat)^i - b / (16777216:Nat)^i - v / (16777216:Nat)^i:Nat)))::(7, .pv (iv i))::e,[(11,(dH (16777216:Nat) n i v).map aJ)],[],[]⟩
theorem HY (k v b n m i:Nat) (hn:n=(dg (16777216:Nat) (b+v)).length) (hm:m=(dg (16777216:Nat) b).length) (hi:i<n) (hs:n<2^40):aI MD t20 k 77 0 (SM v b n m i [])=some (.normal,SM v b n m (i+1) []):=by
 have hx:=ru (b:=(16777216:Nat)) (v:=b+v) (by decide) (i:=i) (by omega)
 have hc:=y9 b v i
 have Qv:=y9 b v (i+1)
 have s1:=eN (b+v) (16777216:Nat) i
 have s2:=eN b (16777216:Nat) i
 have s3:=eN v (16777216:Nat) i
 have hstep:=nh (b:=(16777216:Nat)) (n:=n) (i:=i) (v:=v) (by omega)
 have hsp:ck ((dH (16777216:Nat) n i v).map aJ) (0+i* 1) [aJ (v / (16777216:Nat)^i%(16777216:Nat))] ((dH (16777216:Nat) n (i+1) v).map aJ):=mN hstep (by rw [ir (by omega)];omega) (by omega)
 have hle:0+i* 1+(aJ (v / (16777216:Nat)^i%(16777216:Nat))).cells.length≤((dH (16777216:Nat) n i v).map aJ).length:=by
  rw [List.length_map,ir (by omega)];show _+1≤_;omega
 have kq:az ((dg (16777216:Nat) (b+v)).map aJ) 1 (i:Int) n [aJ ((b+v) / (16777216:Nat)^i%(16777216:Nat))]:=by rw [hn];exact jW hx rfl
 unfold SM
 rw [s1,s2,s3] at*
 generalize hu:(b+v) / (16777216:Nat)^i=u at*
 generalize hw:b / (16777216:Nat)^i=y0 at*
 generalize hv:v / (16777216:Nat)^i=w at*
 obtain ⟨x,hx0⟩:∃x,x=u%(16777216:Nat):=⟨_,rfl⟩
 obtain ⟨y,hy0⟩:∃y,y=y0%(16777216:Nat):=⟨_,rfl⟩
 rw [←hx0] at kq
 obtain ⟨c,hc0⟩:∃c,c=u - y0 - w:=⟨_,rfl⟩
 rw [←hc0]
 by_cases Fm:i<m
 · have hy:=ru (b:=(16777216:Nat)) (v:=b) (by decide) (i:=i) (by omega)
   rw [hw,←hy0] at hy
   have iG:az ((dg (16777216:Nat) b).map aJ) 1 (i:Int) m [aJ y]:=by rw [hm];exact jW hy rfl
   by_cases hneg:x<c+y
   · have e1:u / (16777216:Nat) - y0 / (16777216:Nat) - w / (16777216:Nat)=1:=by omega
     rw [e1]
     have key:=SB k n m i x y (c:Nat) ((x:Int) - (c:Int)) ((x:Int) - (c:Int) - (y:Int)) ((w%(16777216:Nat):Nat):Int) ((dg (16777216:Nat) (b+v)).map aJ) ((dg (16777216:Nat) b).map aJ) ((dH (16777216:Nat) n i v).map aJ) ((dH (16777216:Nat) n (i+1) v).map aJ)
     exact af key ⟨decide_eq_true (by omega),kq,wrap64 (by omega) (by omega),decide_eq_true (by omega),iG,wrap64 (by omega) (by omega),decide_eq_true (by omega),bn (by omega) (by omega),⟨rfl,by omega⟩,hle,hsp,bn (by omega) (by omega),trivial⟩
   · have e1:u / (16777216:Nat) - y0 / (16777216:Nat) - w / (16777216:Nat)=0:=by omega
     rw [e1]
     have key:=SA k n m i x y (c:Nat) ((x:Int) - (c:Int)) ((w%(16777216:Nat):Nat):Int) ((dg (16777216:Nat) (b+v)).map aJ) ((dg (16777216:Nat) b).map aJ) ((dH (16777216:Nat) n i v).map aJ) ((dH (16777216:Nat) n (i+1) v).map aJ)
     exact af key ⟨decide_eq_true (by omega),kq,wrap64 (by omega) (by omega),decide_eq_true (by omega),iG,bn (by omega) (by omega),decide_eq_false (by omega),⟨rfl,by omega⟩,hle,hsp,bn (by omega) (by omega),trivial⟩
 · have hy:=uN (b:=(16777216:Nat)) (v:=b) (by decide) (i:=i) (by omega)
   rw [hw] at hy
   by_cases hneg:x<c
   · have e1:u / (16777216:Nat) - y0 / (16777216:Nat) - w / (16777216:Nat)=1:=by omega
     rw [e1]
     have key:=SE k n m i x (c:Nat) ((x:Int) - (c:Int)) ((w%(16777216:Nat):Nat):Int) ((dg (16777216:Nat) (b+v)).map aJ) ((dg (16777216:Nat) b).map aJ) ((dH (16777216:Nat) n i v).map aJ) ((dH (16777216:Nat) n (i+1) v).map aJ)
     exact af key ⟨decide_eq_true (by omega),kq,wrap64 (by omega) (by omega),decide_eq_false (by omega),decide_eq_true (by omega),bn (by omega) (by omega),⟨rfl,by omega⟩,hle,hsp,bn (by omega) (by omega),trivial⟩
   · have e1:u / (16777216:Nat) - y0 / (16777216:Nat) - w / (16777216:Nat)=0:=by omega
     rw [e1]
     have key:=SD k n m i x (c:Nat) ((w%(16777216:Nat):Nat):Int) ((dg (16777216:Nat) (b+v)).map aJ) ((dg (16777216:Nat) b).map aJ) ((dH (16777216:Nat) n i v).map aJ) ((dH (16777216:Nat) n (i+1) v).map aJ)
     exact af key ⟨decide_eq_true (by omega),kq,bn (by omega) (by omega),decide_eq_false (by omega),decide_eq_false (by omega),⟨rfl,by omega⟩,hle,hsp,bn (by omega) (by omega),trivial⟩
theorem Gp (a b:Nat) (h:b≤a) (ha0:0<a) (ha:(dg (16777216:Nat) a).length<2^39):aA P0 77 [ni (dg (16777216:Nat) a),ni (dg (16777216:Nat) b)] ⟨ni (dg (16777216:Nat) (a - b)),some 1⟩:=by
 obtain ⟨v,rfl⟩:=Nat.exists_eq_add_of_le h
 rw [Nat.add_sub_cancel_left]
 obtain ⟨n,hn⟩:∃n,n=(dg (16777216:Nat) (b+v)).length:=⟨_,rfl⟩
 have hn0:0<n:=by rw [hn,dK (by decide) ha0];simp
 have hlt:v<(16777216:Nat)^n:=by have:=eG (b:=(16777216:Nat)) (n:=b+v) (by decide);rw [←hn] at this;omega
 have lp:=cK (f:=aI MD t20 (n+1) 77 0) (S:=fun i=>SM v b n (dg (16777216:Nat) b).length i []) (n:=n) (fun i hi=>HY (n+1) v b n _ i hn rfl hi (by omega))
  (af (SF (n+1) n (dg (16777216:Nat) b).length n ((b+v) / (16777216:Nat)^n - b / (16777216:Nat)^n - v / (16777216:Nat)^n:Nat) ((dg (16777216:Nat) (b+v)).map aJ) ((dg (16777216:Nat) b).map aJ) ((dH (16777216:Nat) n n v).map aJ)) ⟨decide_eq_false (by omega),trivial⟩) (by simp) (n+1) (by omega)
 have c0:((b+v) / (16777216:Nat)^0 - b / (16777216:Nat)^0 - v / (16777216:Nat)^0:Nat)=0:=by simp
 unfold SM at lp
 rw [c0] at lp
 have z:=lE (c:=aJ) (n:=n)
 rw [←pX (16777216:Nat) n v] at z
 rw [wU] at lp
 have tr:=qo (n:=n) (v:=v) (by omega) hlt
 have fin:de ((fd (16777216:Nat) n v).map aJ) 0 ((dg (16777216:Nat) v).length* 1) ((dg (16777216:Nat) v).map aJ):=pq _ _ _ (by rw [List.drop_zero,Nat.mul_one];exact ud (by decide) hlt)
 have:=ai ah so (by rfl) (XL (n+1) n _ _ _ ((dg (16777216:Nat) (b+v)).map aJ) _ _ _ _) ⟨td (by omega),decide_eq_false (by omega),z,lp,tr,fin,trivial⟩
 unfold ni
 rw [←hn]
 exact this
def SW (a e n i:Nat) (l:List (Nat×AV)):St:=⟨(0, .pv (.sl 1 n ((dg (16777216:Nat) a).map aJ)))::(5, .bs 11 0 1 (n+1))::(6, .pv (iv ((2* a+e) / (16777216:Nat)^i - 2* (a / (16777216:Nat)^i):Nat)))::(7, .pv (iv i))::l,[(11,(dH (16777216:Nat) (n+1) i (2* a+e)).map aJ)],[],[]⟩
theorem IM (k a e n i:Nat) (he:e≤1) (hn:n=(dg (16777216:Nat) a).length) (hi:i<n) (hs:n<2^40):aI MD t20 k 78 0 (SW a e n i [])=some (.normal,SW a e n (i+1) []):=by
 have hx:=ru (b:=(16777216:Nat)) (v:=a) (by decide) (i:=i) (by omega)
 have hc:=IN a e he i
 have s1:=eN a (16777216:Nat) i
 have s3:=eN (2* a+e) (16777216:Nat) i
 have hstep:=nh (b:=(16777216:Nat)) (n:=n+1) (i:=i) (v:=2* a+e) (by omega)
 have hsp:ck ((dH (16777216:Nat) (n+1) i (2* a+e)).map aJ) (0+i* 1) [aJ ((2* a+e) / (16777216:Nat)^i%(16777216:Nat))] ((dH (16777216:Nat) (n+1) (i+1) (2* a+e)).map aJ):=mN hstep (by rw [ir (by omega)];omega) (by omega)
 have hle:0+i* 1+(aJ ((2* a+e) / (16777216:Nat)^i%(16777216:Nat))).cells.length≤((dH (16777216:Nat) (n+1) i (2* a+e)).map aJ).length:=by
  rw [List.length_map,ir (by omega)];show _+1≤_;omega
 have kq:az ((dg (16777216:Nat) a).map aJ) 1 (i:Int) n [aJ (a / (16777216:Nat)^i%(16777216:Nat))]:=by rw [hn];exact jW hx rfl
 unfold SW
 rw [s1,s3]
 generalize hu:a / (16777216:Nat)^i=u at*
 generalize hw:(2* a+e) / (16777216:Nat)^i=w at*
 obtain ⟨x,hx0⟩:∃x,x=u%(16777216:Nat):=⟨_,rfl⟩
 rw [←hx0] at kq
 obtain ⟨c,hc0⟩:∃c,c=w - 2* u:=⟨_,rfl⟩
 have e1:(c+2* x)%(16777216:Nat)=w%(16777216:Nat):=by omega
 have e2:(c+2* x) / (16777216:Nat)=w / (16777216:Nat) - 2* (u / (16777216:Nat)):=by omega
 have key:=Ue k n i x (c:Nat) ((2* x:Nat):Int) ((c+2* x:Nat):Int) ((w / (16777216:Nat) - 2* (u / (16777216:Nat)):Nat):Int) ((w%(16777216:Nat):Nat):Int) ((dg (16777216:Nat) a).map aJ) ((dH (16777216:Nat) (n+1) i (2* a+e)).map aJ) ((dH (16777216:Nat) (n+1) (i+1) (2* a+e)).map aJ)
 rw [←hc0]
 exact af key ⟨decide_eq_true (by omega),kq,bn (by omega) (by omega),bn (by omega) (by omega),by rw [←e1];exact fy _ _,rfl,⟨rfl,by omega⟩,hle,hsp,by rw [←e2];exact bn (ia _ _) (by omega),rfl,bn (by omega) (by omega),trivial⟩
theorem GA (a e:Nat) (he:e≤1) (ha:(dg (16777216:Nat) a).length<2^39):aA P0 78 [ni (dg (16777216:Nat) a),iv e] ⟨ni (dg (16777216:Nat) (2* a+e)),some 1⟩:=by
 obtain ⟨n,hn⟩:∃n,n=(dg (16777216:Nat) a).length:=⟨_,rfl⟩
 have h1:=eG (b:=(16777216:Nat)) (n:=a) (by decide)
 rw [←hn] at h1
 have hlt:2* a+e<(16777216:Nat)^(n+1):=by rw [Nat.pow_succ];omega
 have lp:=cK (f:=aI MD t20 (n+1) 78 0) (S:=fun i=>SW a e n i []) (n:=n) (fun i hi=>IM (n+1) a e n i he hn hi (by omega))
  (af (Uf (n+1) n n ((2* a+e) / (16777216:Nat)^n - 2* (a / (16777216:Nat)^n):Nat) ((dg (16777216:Nat) a).map aJ) ((dH (16777216:Nat) (n+1) n (2* a+e)).map aJ)) ⟨decide_eq_false (by omega),trivial⟩) (by simp) (n+1) (by omega)
 have c0:((2* a+e) / (16777216:Nat)^0 - 2* (a / (16777216:Nat)^0):Nat)=e:=by simp
 have z1:=uN (b:=(16777216:Nat)) (v:=a) (i:=n) (by decide) (by omega)
 have hc:=IN a e he n
 rw [z1] at hc
 unfold SW at lp
 rw [c0,z1,Nat.mul_zero,Nat.sub_zero] at lp
 have z:=lE (c:=aJ) (n:=n+1)
 rw [←pX (16777216:Nat) (n+1) (2* a+e)] at z
 have hstep:=nh (b:=(16777216:Nat)) (n:=n+1) (i:=n) (v:=2* a+e) (by omega)
 rw [wU,Nat.mod_eq_of_lt (by omega)] at hstep
 have hsp:ck ((dH (16777216:Nat) (n+1) n (2* a+e)).map aJ) (0+n* 1) [iv ((2* a+e) / (16777216:Nat)^n:Nat)] ((fd (16777216:Nat) (n+1) (2* a+e)).map aJ):=mN (c:=aJ) hstep (by rw [ir (by omega)];omega) (by omega)
 have hle:0+n* 1+(iv ((2* a+e) / (16777216:Nat)^n:Nat)).cells.length≤((dH (16777216:Nat) (n+1) n (2* a+e)).map aJ).length:=by
  rw [List.length_map,ir (by omega)];show _+1≤_;omega
 have tr:=qo (n:=n+1) (v:=2* a+e) (by omega) hlt
 have fin:de ((fd (16777216:Nat) (n+1) (2* a+e)).map aJ) 0 ((dg (16777216:Nat) (2* a+e)).length* 1) ((dg (16777216:Nat) (2* a+e)).map aJ):=pq _ _ _ (by rw [List.drop_zero,Nat.mul_one];exact ud (by decide) hlt)
 have:=ai ah so (by rfl) (Y8 (n+1) n _ _ e ((dg (16777216:Nat) a).map aJ) _ _ _ _) ⟨bn (by omega) (by omega),td (by omega),decide_eq_false (by omega),z,lp,⟨rfl,by omega⟩,hle,hsp,tr,fin,trivial⟩
 unfold ni
 rw [←hn]
 exact this
def iT (a b:Nat):Int:=if a<b then -1 else if b<a then 1 else 0
def mb (l m:List Nat) (j:Nat):Xt×St:=
 if val (16777216:Nat) (l.take j)<val (16777216:Nat) (m.take j) then (.ret,⟨[(4, .pv (iv (-1)))],[],[],[]⟩)
 else if val (16777216:Nat) (m.take j)<val (16777216:Nat) (l.take j) then (.ret,⟨[(4, .pv (iv 1))],[],[],[]⟩)
 else (.exit 0,⟨[(0, .pv (ni l)),(1, .pv (ni m)),(5, .pv (iv (-1))),(20, .pv (bv false))],[],[],[]⟩)
theorem AB (k:Nat) (l m:List Nat) (hl:bB (16777216:Nat) l) (hm:bB (16777216:Nat) m) (e:l.length=m.length) (hs:l.length<2^40):∀j,j≤l.length→aR (aI MD t0 k 76 0) (j+1) ⟨[(0, .pv (ni l)),(1, .pv (ni m)),(5, .pv (iv ((j:Int) - 1)))],[],[],[]⟩=some (mb l m j)
 |0,_=>by
  simp only [mb,List.take_zero,Nat.lt_irrefl,if_false]
  exact aF (af (SZ k _ _ _ _ _) ⟨by decide,trivial⟩) (by simp)
 |j+1,hj=>by
  obtain ⟨x,hx⟩:=get_some (l:=l) (i:=j) (by omega)
  obtain ⟨y,hy⟩:=get_some (l:=m) (i:=j) (by omega)
  have v1:=cG (b:=(16777216:Nat)) hx
  have v2:=cG (b:=(16777216:Nat)) hy
  have l1:=dc (fl hl j)
  have l2:=dc (fl hm j)
  have e1:(l.take j).length=j:=by rw [List.length_take];omega
  have e2:(m.take j).length=j:=by rw [List.length_take];omega
  rw [e1] at l1;rw [e2] at l2
  have hi:(((j+1:Nat):Int) - 1)=(j:Int):=by omega
  rw [hi]
  have r1:az (l.map aJ) 1 (j:Int) l.length [aJ x]:=jW hx rfl
  have r2:az (m.map aJ) 1 (j:Int) m.length [aJ y]:=jW hy rfl
  have h0:decide ((j:Int)≥0)=true:=decide_eq_true (by omega)
  rcases Nat.lt_trichotomy x y with h|h|h
  · have hv:val (16777216:Nat) (l.take (j+1))<val (16777216:Nat) (m.take (j+1)):=by
      rw [v1,v2]
      have:(16777216:Nat)^j* (x+1)≤(16777216:Nat)^j* y:=Nat.mul_le_mul_left _ h
      rw [Nat.mul_add] at this
      omega
    simp only [mb,if_pos hv]
    exact aF (af (S3 k _ _ x y _ _ _) ⟨h0,r1,r2,bne_iff_ne.2 (by omega),r1,r2,decide_eq_true (by omega),trivial⟩) (by simp)
  · subst h
    have hc:mb l m (j+1)=mb l m j:=by
     simp only [mb,v1,v2,Nat.add_lt_add_iff_right]
    rw [hc]
    exact aW (af (S0 k _ _ x x _ _ _ ((j:Int) - 1)) ⟨h0,r1,r2,by simp,wrap64 (by omega) (by omega),trivial⟩) (AB k l m hl hm e hs j (by omega))
  · have hv:val (16777216:Nat) (m.take (j+1))<val (16777216:Nat) (l.take (j+1)):=by
      rw [v1,v2]
      have:(16777216:Nat)^j* (y+1)≤(16777216:Nat)^j* x:=Nat.mul_le_mul_left _ h
      rw [Nat.mul_add] at this
      omega
    have Ac:¬val (16777216:Nat) (l.take (j+1))<val (16777216:Nat) (m.take (j+1)):=by omega
    simp only [mb,if_pos hv,if_neg Ac]
    exact aF (af (S4 k _ _ x y _ _ _) ⟨h0,r1,r2,bne_iff_ne.2 (by omega),r1,r2,decide_eq_false (by omega),trivial⟩) (by simp)
theorem Gq (a b:Nat) (ha:(dg (16777216:Nat) a).length<2^40) (hb:(dg (16777216:Nat) b).length<2^40):aA P0 76 [ni (dg (16777216:Nat) a),ni (dg (16777216:Nat) b)] (one (iv (iT a b))):=by
 by_cases e:(dg (16777216:Nat) a).length=(dg (16777216:Nat) b).length
 · have lp:=AB ((dg (16777216:Nat) a).length+1) _ _ (cD (by decide) a) (cD (by decide) b) e ha (dg (16777216:Nat) a).length (Nat.le_refl _)
   have hne:(((dg (16777216:Nat) a).length:Int) !=((dg (16777216:Nat) b).length:Int))=false:=by simp [e]
   have hw:IntKind.i64.wrap (((dg (16777216:Nat) a).length:Int) - 1)=((dg (16777216:Nat) a).length:Int) - 1:=wrap64 (by omega) (by omega)
   have t1:(dg (16777216:Nat) a).take (dg (16777216:Nat) a).length=dg (16777216:Nat) a:=List.take_length
   have t2:(dg (16777216:Nat) b).take (dg (16777216:Nat) a).length=dg (16777216:Nat) b:=by rw [e];exact List.take_length
   unfold mb at lp
   rw [t1,t2,ct (by decide),ct (by decide)] at lp
   unfold iT
   by_cases v1:a<b
   · rw [if_pos v1] at lp ⊢
     exact ai ah (aO aL) (by rfl) (Q5 ((dg (16777216:Nat) a).length+1) _ _ _ _ _ (-1)) ⟨hne,hw,lp,trivial⟩
   · rw [if_neg v1] at lp ⊢
     by_cases v2:b<a
     · rw [if_pos v2] at lp ⊢
       exact ai ah (aO aL) (by rfl) (Q5 ((dg (16777216:Nat) a).length+1) _ _ _ _ _ 1) ⟨hne,hw,lp,trivial⟩
     · rw [if_neg v2] at lp ⊢
       exact ai ah (aO aL) (by rfl) (X8 ((dg (16777216:Nat) a).length+1) _ _ _ _ _) ⟨hne,hw,lp,trivial⟩
 · have hne:(((dg (16777216:Nat) a).length:Int) !=((dg (16777216:Nat) b).length:Int))=true:=bne_iff_ne.2 (by omega)
   unfold iT
   by_cases h:(dg (16777216:Nat) a).length<(dg (16777216:Nat) b).length
   · rw [if_pos (EK (by decide) h)]
     exact ai ah (aO aL) (by rfl) (X6 1 _ _ _ _) ⟨hne,decide_eq_true (by omega),trivial⟩
   · have h2:=EK (b:=(16777216:Nat)) (by decide) (show (dg (16777216:Nat) b).length<(dg (16777216:Nat) a).length by omega)
     rw [if_neg (by omega),if_pos h2]
     exact ai ah (aO aL) (by rfl) (X7 1 _ _ _ _) ⟨hne,decide_eq_false (by omega),trivial⟩
theorem G4:aP MD.P t21:=aO (au (aE fun x _=>jX x.1 x.2) aL)
def Si (g:Bool) (s:ByteArray) (i:Nat) (e:List (Nat×AV)):St:=⟨(1, .bp 1 0)::(4, .pv (.lit (.int .u64 (val 256 ((aY s).drop (s.size - i)):Nat))))::(5, .pv (iv i))::e,[(1,[bv g,sv s])],[],[]⟩
theorem HT (k i:Nat) (g:Bool) (s:ByteArray) (hi:i<s.size) (hs:s.size≤7):aI MD t21 k 88 0 (Si g s i [])=some (.normal,Si g s (i+1) []):=by
 obtain ⟨b,hb,cF⟩:=mG (s:=s) (i:=s.size - 1 - i) (by omega)
 have oQ:b<256:=ef s b (List.mem_of_getElem? hb)
 rw [show s.size - 1 - (s.size - 1 - i)=i by omega] at cF
 have hd:=tZ (b:=256) hb
 rw [show s.size - 1 - i+1=s.size - i by omega,show s.size - 1 - i=s.size - (i+1) by omega] at hd
 have hlt:=dc (jH (ef s) (s.size - (i+1)))
 rw [List.length_drop,bW] at hlt
 have h7:256^(s.size - (s.size - (i+1)))≤256^7:=Nat.pow_le_pow_right (by decide) (by omega)
 have z9:fu s (i:Int) (b:Int):=by
  show ji s _=_
  unfold ji
  rw [if_pos (by omega),Int.toNat_natCast]
  cases h:s[i]? with
  |none=>rw [h] at cF;simp at cF
  |some c=>rw [h] at cF;simp at cF;simp [cF]
 obtain ⟨u,hu⟩:∃u,u=val 256 ((aY s).drop (s.size - i)):=⟨_,rfl⟩
 obtain ⟨u2,gu⟩:∃u2,u2=val 256 ((aY s).drop (s.size - (i+1))):=⟨_,rfl⟩
 rw [←hu,←gu] at hd
 rw [←gu] at hlt
 unfold Si
 rw [←hu,←gu]
 have hp:(2:Int)^min (Int.toNat 8) IntKind.u64.bits=256:=by decide
 exact af (Xs k i b u ((256* u:Nat):Int) (u2:Nat) g s) ⟨decide_eq_true (by omega),by rw [hp];exact bE (by omega) (by omega),rfl,z9,bE rfl (by omega),bE (by omega) (by omega),bn (by omega) (by omega),trivial⟩
theorem Gn (z:Int) (h:(aH z.natAbs).size≤7):aA P0 88 [.ag (zc z)] (one (.an [iv z,bv true])):=by
 obtain ⟨s,hs⟩:∃s,s=aH z.natAbs:=⟨_,rfl⟩
 rw [←hs] at h
 have hval:val 256 ((aY s).drop (s.size - s.size))=z.natAbs:=by rw [Nat.sub_self,List.drop_zero,hs,dJ,ct (by decide)]
 have hlt:z.natAbs<256^7:=by
  have h1:=eG (b:=256) (n:=z.natAbs) (by decide)
  have h2:(dg 256 z.natAbs).length≤7:=by rw [←mH,←hs];exact h
  exact Nat.lt_of_lt_of_le h1 (Nat.pow_le_pow_right (by decide) h2)
 have lp:=fun g=>cK (f:=aI MD t21 8 88 0) (S:=fun i=>Si g s i []) (n:=s.size) (fun i hi=>HT 8 i g s hi h) (af (Xu 8 s.size (val 256 ((aY s).drop (s.size - s.size)):Nat) g s) ⟨decide_eq_false (by omega),trivial⟩) (by simp) 8 (by omega)
 have v0:val 256 ((aY s).drop (s.size - 0))=0:=by
  rw [Nat.sub_zero,List.drop_of_length_le (by rw [bW];omega)];rfl
 have vt:gV [iz (decide (z<0)) s]=some (one (bv true)):=by rw [cO,hs,sZ]
 unfold Si at lp
 rw [hval,v0] at lp
 have e:(.ag (zc z):PV)=iz (decide (z<0)) s:=by rw [hs];rfl
 rw [e]
 by_cases hz:z<0
 · rw [decide_eq_true hz] at vt ⊢
   exact ai ah G4 (by rfl) (Xq 8 (z.natAbs:Nat) (-z - 1) (-z - 1) (z+1) z s) ⟨vt,decide_eq_false (by omega),lp true,decide_eq_true (by omega),by rw [wrap_u64];omega,wrap64 (by omega) (by omega),by rw [wrap64]<;>omega,by rw [wrap64]<;>omega,trivial⟩
 · rw [decide_eq_false hz] at vt ⊢
   exact ai ah G4 (by rfl) (Xr 8 (z.natAbs:Nat) z s) ⟨vt,decide_eq_false (by omega),lp false,decide_eq_true (by omega),by rw [wrap64]<;>omega,trivial⟩
theorem FJ {z:Int} (h:(aH z.natAbs).size≤7):FI [.ag (zc z)]=some (one (.an [iv z,bv true])):=
 bl (enc:=fun z:Int=>[.ag (zc z)]) (fun a b e=>by
  simp only [List.cons.injEq,and_true,PV.ag.injEq] at e
  rw [kO e]) h
theorem Gx (z:Int) (h:(aH z.natAbs).size≤7):aA P0 71 [.ag (zc z)] (one (.an [iv z,bv true])):=
 ai ah (aO (au (aE fun z h=>Gn z h) aL)) (by rfl) (Tw 1 (decide (z<0)) (aH z.natAbs) z) ⟨decide_eq_false (by omega),FJ h,trivial⟩
end Go.Proofs.YtibbgjafjhcemaaDoor.Cul
namespace Go.Proofs.YtibbgjafjhcemaaDoor.Cul
theorem pV {b:Nat} (hb:2≤b) {w:Nat} (hw:0<w):∀z,dg b (b^z* w)=List.replicate z 0++dg b w
 |0=>by simp
 |z+1=>by
  have h:0<b^z* w:=Nat.mul_pos (Nat.pow_pos (by omega)) hw
  have e:b^(z+1)* w=0+b* (b^z* w):=by rw [Nat.pow_succ,Nat.mul_comm (b^z) b,Nat.mul_assoc];omega
  rw [e,wR hb (by omega) _ (.inr h),pV hb hw z,List.replicate_succ];rfl
def oz (v:Nat):Nat:=tz v / 24
def ok' (v:Nat):Nat:=tz v%24
def ow (v:Nat):Nat:=2^ok' v* od v
theorem n5 (v:Nat):ok' v<24:=Nat.mod_lt _ (by decide)
theorem rY {v:Nat} (h:0<v):0<ow v:=Nat.mul_pos (Nat.pow_pos (by decide)) (Nx h)
theorem DT {v:Nat} (h:0<v):(16777216:Nat)^oz v* ow v=v:=by
 conv=>rhs;rw [←vF h]
 unfold ow
 rw [←Nat.mul_assoc]
 congr 1
 rw [show (16777216:Nat)=2^24 by decide,←Nat.pow_mul,←Nat.pow_add]
 congr 1
 unfold oz ok'
 omega
theorem BM {w j:Nat} (h:j<24):(w%(16777216:Nat)) / 2^j%2=w / 2^j%2:=by
 rw [show (16777216:Nat)=2^j* 2^(24 - j) by rw [←Nat.pow_add,show j+(24 - j)=24 by omega],Nat.mod_mul_right_div_self]
 refine Nat.mod_mod_of_dvd _ ?_
 exact ⟨2^(24 - j - 1),by rw [←Nat.pow_succ'];congr 1;omega⟩
theorem NB {v j:Nat} (h:j<ok' v):(ow v%(16777216:Nat)) / 2^j%2=0:=by
 have:=n5 v
 rw [BM (by omega)]
 unfold ow
 obtain ⟨d,hd⟩:∃d,ok' v=j+(d+1):=⟨ok' v - j - 1,by omega⟩
 rw [hd,Nat.pow_add,Nat.mul_assoc,Nat.mul_div_cancel_left _ (Nat.pow_pos (by decide)),Nat.pow_succ']
 rw [Nat.mul_assoc];simp
theorem Cp {v:Nat} (h:0<v):(ow v%(16777216:Nat)) / 2^ok' v%2=1:=by
 rw [BM (n5 v)]
 unfold ow
 rw [Nat.mul_div_cancel_left _ (Nat.pow_pos (by decide))]
 exact jw h
theorem NC {v:Nat}:ow v%(16777216:Nat)%2^ok' v=0:=by
 have:=n5 v
 rw [Nat.mod_mod_of_dvd _ (by rw [show (16777216:Nat)=2^24 by decide];exact Nat.pow_dvd_pow 2 (by omega))]
 unfold ow
 simp
def gQ (v:Nat):List Nat:=List.replicate (oz v) 0++shr (ok' v) (dg (16777216:Nat) (ow v))
theorem Av {v:Nat} (h:0<v):val (16777216:Nat) (shr (ok' v) (dg (16777216:Nat) (ow v)))=od v:=by
 have hw:=rY h
 have e:=dK (b:=(16777216:Nat)) (by decide) hw
 have h1:=CN (k:=ok' v) (by have:=n5 v;omega) (ow v%(16777216:Nat)) (dg (16777216:Nat) (ow v / (16777216:Nat)))
 rw [←e] at h1
 rw [show (2:Nat)^24=(16777216:Nat) by decide,ct (by decide),NC,Nat.add_zero] at h1
 exact Nat.eq_of_mul_eq_mul_left (Nat.pow_pos (by decide)) h1
theorem Au (v:Nat):bB (16777216:Nat) (shr (ok' v) (dg (16777216:Nat) (ow v))):=by
 have:=CL (k:=ok' v) (by have:=n5 v;omega) (l:=dg (16777216:Nat) (ow v)) (by rw [show (2:Nat)^24=(16777216:Nat) by decide];exact cD (by decide) _)
 rwa [show (2:Nat)^24=(16777216:Nat) by decide] at this
def cR (k:Nat) (l:List Nat) (i:Nat):List Nat:=(shr k l).take i++l.drop i
theorem GJ (k:Nat) (l:List Nat) (i:Nat):(cR k l i).length=l.length:=by
 simp [cR,gU];omega
theorem Ec (k:Nat) (l:List Nat):cR k l 0=l:=by simp [cR]
theorem GG (k:Nat) (l:List Nat):cR k l l.length=shr k l:=by
 simp [cR]
 exact List.take_of_length_le (by rw [gU];omega)
theorem GH {k:Nat} {l:List Nat} {i x:Nat} (h:l[i]? =some x):(cR k l i)[i]? =some x:=by
 have hi:i<l.length:=by
  rcases Nat.lt_or_ge i l.length with h'|h'
  · exact h'
  · simp [List.getElem?_eq_none h'] at h
 unfold cR
 rw [List.getElem?_append_right (by rw [List.length_take,gU];omega),List.length_take,gU,List.getElem?_drop]
 rw [show i+(i - min i l.length)=i by omega];exact h
theorem Ea {k:Nat} {l:List Nat} {i y:Nat} (h:l[i+1]? =some y) (z:Nat):((cR k l i).set i z)[i+1]? =some y:=by
 have hi:i+1<l.length:=by
  rcases Nat.lt_or_ge (i+1) l.length with h'|h'
  · exact h'
  · simp [List.getElem?_eq_none h'] at h
 rw [List.getElem?_set_ne (by omega)]
 unfold cR
 rw [List.getElem?_append_right (by rw [List.length_take,gU];omega),List.length_take,gU,List.getElem?_drop]
 rw [show i+(i+1 - min i l.length)=i+1 by omega];exact h
theorem Eb {k:Nat} {l:List Nat} {i x:Nat} (h:l[i]? =some x):(cR k l i).set i (x / 2^k+(match l[i+1]? with|some y=>y* 2^(24 - k)%2^24|none=>0))=cR k l (i+1):=by
 have hi:i<l.length:=by
  rcases Nat.lt_or_ge i l.length with h'|h'
  · exact h'
  · simp [List.getElem?_eq_none h'] at h
 have hg:=CM (k:=k) h
 have hl:((shr k l).take i).length=i:=by rw [List.length_take,gU];omega
 have hs:(shr k l).take (i+1)=(shr k l).take i++[x / 2^k+(match l[i+1]? with|some y=>y* 2^(24 - k)%2^24|none=>0)]:=by
  rw [List.take_add_one,hg];rfl
 unfold cR
 rw [List.set_append_right _ _ (by omega),hl,Nat.sub_self,List.drop_eq_getElem_cons hi,List.set_cons_zero,hs,List.append_assoc];rfl
end Go.Proofs.YtibbgjafjhcemaaDoor.Cul
namespace Go.Proofs.YtibbgjafjhcemaaDoor.Cul
open Go Go.RowKit
theorem SH (k o m x:Nat) (c:Int) (cs:List PV):ak MD t20 k 75 0 ⟨[(0, .bs gk o 1 m),(4, .pv (iv c))],[(gk,cs)],[],[]⟩ [.j 8 0, .e 9 (iv x), .c false]=
 some ((Xt.exit 0,St.mk [(0,AV.bs 1000000 o 1 m),(4,AV.pv (PV.lit (Value.int IntKind.i64 c))),(10,AV.pv (PV.lit (Value.bool false)))] [(1000000,cs)] [] []),[],[aG (0:Int) m 0,Ld MD.P 3 cs o (PV.lit (Value.int IntKind.i64 (↑x:Int))),((↑x:Int)==(0:Int))=false]):=by kernel_rfl
theorem SI (k o m x:Nat) (c d:Int) (cs:List PV):ak MD t20 k 75 0 ⟨[(0, .bs gk o 1 m),(4, .pv (iv c))],[(gk,cs)],[],[]⟩ [.j 8 0, .e 9 (iv x), .c true, .o 12 (o+1) (m - 1), .i 14 d]=
 some ((Xt.normal,St.mk [(0,AV.bs 1000000 (o+(1:Nat)) 1 (m - (1:Nat))),(4,AV.pv (PV.lit (Value.int IntKind.i64 d)))] [(1000000,cs)] [] []),[],[aG (0:Int) m 0,Ld MD.P 3 cs o (PV.lit (Value.int IntKind.i64 (↑x:Int))),((↑x:Int)==(0:Int))=true,(0:Int)≤(1:Int)∧(1:Int)≤(↑m:Int)∧(↑m:Int)≤(↑m:Int),o+Int.toNat (1:Int)* (1:Nat)=o+(1:Nat),(↑m:Int).toNat - Int.toNat (1:Int)=m - (1:Nat),IntKind.i64.wrap (c+(24:Int))=d]):=by kernel_rfl
theorem SJ (k o m x j y z:Nat) (c:Int) (cs:List PV):ak MD t20 k 75 1 ⟨[(0, .bs gk o 1 m),(4, .pv (iv c)),(5, .pv (iv j))],[(gk,cs)],[],[]⟩ [.j 16 0, .e 17 (iv x), .i 19 y, .i 20 z, .c false]=
 some ((Xt.exit 2,St.mk [(0,AV.bs 1000000 o 1 m),(4,AV.pv (PV.lit (Value.int IntKind.i64 c))),(5,AV.pv (PV.lit (Value.int IntKind.i64 (↑j:Int)))),(21,AV.pv (PV.lit (Value.bool false)))] [(1000000,cs)] [] []),[],[aG (0:Int) m 0,Ld MD.P 3 cs o (PV.lit (Value.int IntKind.i64 (↑x:Int))),(↑x:Int).fdiv ((2:Int)^min (↑j:Int).toNat IntKind.i64.bits)=(↑y:Int),decide ((↑j:Int)<(0:Int))=false,IntKind.i64.wrap (↑(BitVec.ofInt IntKind.i64.bits (↑y:Int)&&&BitVec.ofInt IntKind.i64.bits (1:Int)).toNat:Int)=(↑z:Int),((↑z:Int)==(0:Int))=false]):=by kernel_rfl
theorem SK (k o m x j y z:Nat) (c:Int) (cs:List PV):ak MD t20 k 75 1 ⟨[(0, .bs gk o 1 m),(4, .pv (iv c)),(5, .pv (iv j))],[(gk,cs)],[],[]⟩ [.j 16 0, .e 17 (iv x), .i 19 y, .i 20 z, .c true, .i 23 (j+1:Nat)]=
 some ((Xt.normal,St.mk [(0,AV.bs 1000000 o 1 m),(4,AV.pv (PV.lit (Value.int IntKind.i64 c))),(5,AV.pv (PV.lit (Value.int IntKind.i64 (↑(j+(1:Nat)):Int))))] [(1000000,cs)] [] []),[],[aG (0:Int) m 0,Ld MD.P 3 cs o (PV.lit (Value.int IntKind.i64 (↑x:Int))),(↑x:Int).fdiv ((2:Int)^min (↑j:Int).toNat IntKind.i64.bits)=(↑y:Int),decide ((↑j:Int)<(0:Int))=false,IntKind.i64.wrap (↑(BitVec.ofInt IntKind.i64.bits (↑y:Int)&&&BitVec.ofInt IntKind.i64.bits (1:Int)).toNat:Int)=(↑z:Int),((↑z:Int)==(0:Int))=true,IntKind.i64.wrap ((↑j:Int)+(1:Int))=(↑(j+(1:Nat)):Int)]):=by kernel_rfl
theorem SL (k o m i:Nat) (c q:Int) (cs:List PV):ak MD t20 k 75 2 ⟨[(0, .bs gk o 1 m),(4, .pv (iv c)),(5, .pv (iv q)),(6, .pv (iv i))],[(gk,cs)],[],[]⟩ [.c false]=
 some ((Xt.exit 4,St.mk [(0,AV.bs 1000000 o 1 m),(4,AV.pv (PV.lit (Value.int IntKind.i64 c))),(5,AV.pv (PV.lit (Value.int IntKind.i64 q))),(6,AV.pv (PV.lit (Value.int IntKind.i64 (↑i:Int)))),(27,AV.pv (PV.lit (Value.bool false)))] [(1000000,cs)] [] []),[],[decide ((↑i:Int)<(↑m:Int))=false]):=by kernel_rfl
theorem SN (k o m i x y:Nat) (c q:Int) (cs cs':List PV):ak MD t20 k 75 2 ⟨[(0, .bs gk o 1 m),(4, .pv (iv c)),(5, .pv (iv q)),(6, .pv (iv i))],[(gk,cs)],[],[]⟩ [.c true, .j 32 i, .e 33 (iv x), .i 35 y, .j 36 i, .s cs', .i 38 (i+1:Nat), .c false, .i 29 (i+1:Nat)]=
 some ((Xt.normal,St.mk [(0,AV.bs 1000000 o 1 m),(4,AV.pv (PV.lit (Value.int IntKind.i64 c))),(5,AV.pv (PV.lit (Value.int IntKind.i64 q))),(6,AV.pv (PV.lit (Value.int IntKind.i64 (↑(i+(1:Nat)):Int))))] [(1000000,cs')] [] []),[],[decide ((↑i:Int)<(↑m:Int))=true,aG (↑i:Int) m i,Ld MD.P 3 cs (o+i* (1:Nat)) (PV.lit (Value.int IntKind.i64 (↑x:Int))),(↑x:Int).fdiv ((2:Int)^min q.toNat IntKind.i64.bits)=(↑y:Int),decide (q<(0:Int))=false,aG (↑i:Int) m i,o+i* (1:Nat)+(PV.lit (Value.int IntKind.i64 (↑y:Int))).cells.length≤cs.length,ck cs (o+i* (1:Nat)) [PV.lit (Value.int IntKind.i64 (↑y:Int))] cs',IntKind.i64.wrap ((↑i:Int)+(1:Int))=(↑(i+(1:Nat)):Int),decide ((↑(i+(1:Nat)):Int)<(↑m:Int))=false,IntKind.i64.wrap ((↑i:Int)+(1:Int))=(↑(i+(1:Nat)):Int)]):=by kernel_rfl
theorem SO (k o m i x y u Ju s1 s2 s3:Nat) (c q:Int) (cs cs' aK:List PV):ak MD t20 k 75 2 ⟨[(0, .bs gk o 1 m),(4, .pv (iv c)),(5, .pv (iv q)),(6, .pv (iv i))],[(gk,cs)],[],[]⟩ [.c true, .j 32 i, .e 33 (iv x), .i 35 y, .j 36 i, .s cs', .i 38 (i+1:Nat), .c true, .j 44 i, .e 45 (iv y), .i 48 (i+1:Nat), .j 49 (i+1), .e 50 (iv u), .i 52 Ju, .i 53 s1, .i 54 s2, .i 55 s3, .j 56 i, .s aK, .i 29 (i+1:Nat)]=
 some ((Xt.normal,St.mk [(0,AV.bs 1000000 o 1 m),(4,AV.pv (PV.lit (Value.int IntKind.i64 c))),(5,AV.pv (PV.lit (Value.int IntKind.i64 q))),(6,AV.pv (PV.lit (Value.int IntKind.i64 (↑(i+(1:Nat)):Int))))] [(1000000,aK)] [] []),[],[decide ((↑i:Int)<(↑m:Int))=true,aG (↑i:Int) m i,Ld MD.P 3 cs (o+i* (1:Nat)) (PV.lit (Value.int IntKind.i64 (↑x:Int))),(↑x:Int).fdiv ((2:Int)^min q.toNat IntKind.i64.bits)=(↑y:Int),decide (q<(0:Int))=false,aG (↑i:Int) m i,o+i* (1:Nat)+(PV.lit (Value.int IntKind.i64 (↑y:Int))).cells.length≤cs.length,ck cs (o+i* (1:Nat)) [PV.lit (Value.int IntKind.i64 (↑y:Int))] cs',IntKind.i64.wrap ((↑i:Int)+(1:Int))=(↑(i+(1:Nat)):Int),decide ((↑(i+(1:Nat)):Int)<(↑m:Int))=true,aG (↑i:Int) m i,Ld MD.P 3 cs' (o+i* (1:Nat)) (PV.lit (Value.int IntKind.i64 (↑y:Int))),IntKind.i64.wrap ((↑i:Int)+(1:Int))=(↑(i+(1:Nat)):Int),aG (↑(i+(1:Nat)):Int) m (i+(1:Nat)),Ld MD.P 3 cs' (o+(i+(1:Nat))* (1:Nat)) (PV.lit (Value.int IntKind.i64 (↑u:Int))),IntKind.i64.wrap ((24:Int) - q)=(↑Ju:Int),IntKind.i64.wrap ((↑u:Int)* (2:Int)^min (↑Ju:Int).toNat IntKind.i64.bits)=(↑s1:Int),decide ((↑Ju:Int)<(0:Int))=false,(↑s1:Int).tmod (16777216:Int)=(↑s2:Int),false=false,IntKind.i64.wrap ((↑y:Int)+(↑s2:Int))=(↑s3:Int),aG (↑i:Int) m i,o+i* (1:Nat)+(PV.lit (Value.int IntKind.i64 (↑s3:Int))).cells.length≤cs'.length,ck cs' (o+i* (1:Nat)) [PV.lit (Value.int IntKind.i64 (↑s3:Int))] aK,IntKind.i64.wrap ((↑i:Int)+(1:Int))=(↑(i+(1:Nat)):Int)]):=by kernel_rfl
theorem SQ (k o m n r:Nat) (c q f:Int) (cs cs':List PV):hO MD t20 k 75 [.g cs 0 1 n] [.l (.exit 0) ⟨[(0, .bs gk o 1 m),(4, .pv (iv c)),(10, .pv (bv false))],[(gk,cs)],[],[]⟩, .l (.exit 2) ⟨[(0, .bs gk o 1 m),(4, .pv (iv c)),(5, .pv (iv q)),(21, .pv (bv false))],[(gk,cs)],[],[]⟩, .l (.exit 4) ⟨[(0, .bs gk o 1 m),(4, .pv (iv c)),(5, .pv (iv q)),(6, .pv (iv m)),(27, .pv (bv false))],[(gk,cs')],[],[]⟩, .m (.gs o r) cs', .i 61 f]=
 some ((MR.gt o r [PV.lit (Value.int IntKind.i64 f)],cs'),[cs'.all bS=true,cs'.length=cs.length,aN MD t20 k (75:Nat) (0:Nat) (St.mk [(0,AV.bs 1000000 0 1 n),(4,AV.pv (PV.lit (Value.int IntKind.i64 (0:Int))))] [(1000000,cs)] [] []) (Xt.exit 0) (St.mk [(0,AV.bs 1000000 o 1 m),(4,AV.pv (PV.lit (Value.int IntKind.i64 c))),(10,AV.pv (PV.lit (Value.bool false)))] [(1000000,cs)] [] []),aN MD t20 k (75:Nat) (1:Nat) (St.mk [(0,AV.bs 1000000 o 1 m),(4,AV.pv (PV.lit (Value.int IntKind.i64 c))),(5,AV.pv (PV.lit (Value.int IntKind.i64 (0:Int))))] [(1000000,cs)] [] []) (Xt.exit 2) (St.mk [(0,AV.bs 1000000 o 1 m),(4,AV.pv (PV.lit (Value.int IntKind.i64 c))),(5,AV.pv (PV.lit (Value.int IntKind.i64 q))),(21,AV.pv (PV.lit (Value.bool false)))] [(1000000,cs)] [] []),aN MD t20 k (75:Nat) (2:Nat) (St.mk [(0,AV.bs 1000000 o 1 m),(4,AV.pv (PV.lit (Value.int IntKind.i64 c))),(5,AV.pv (PV.lit (Value.int IntKind.i64 q))),(6,AV.pv (PV.lit (Value.int IntKind.i64 (0:Int))))] [(1000000,cs)] [] []) (Xt.exit 4) (St.mk [(0,AV.bs 1000000 o 1 m),(4,AV.pv (PV.lit (Value.int IntKind.i64 c))),(5,AV.pv (PV.lit (Value.int IntKind.i64 q))),(6,AV.pv (PV.lit (Value.int IntKind.i64 (↑m:Int)))),(27,AV.pv (PV.lit (Value.bool false)))] [(1000000,cs')] [] []),cC t20 90 [MA.g cs' o 1 m] (MR.gs o r) cs',IntKind.i64.wrap (c+q)=f]):=by kernel_rfl
theorem Ll (y:Nat) (h:y<2^63):IntKind.i64.wrap (((BitVec.ofInt IntKind.i64.bits (y:Int)&&&BitVec.ofInt IntKind.i64.bits 1).toNat:Nat):Int)=((y%2:Nat):Int):=by
 have e:(BitVec.ofInt IntKind.i64.bits (y:Int)&&&BitVec.ofInt IntKind.i64.bits 1).toNat=y%2:=by
  rw [BitVec.toNat_and,show (1:Int)=((1:Nat):Int) from rfl,BitVec.ofInt_natCast,BitVec.ofInt_natCast,BitVec.toNat_ofNat,BitVec.toNat_ofNat]
  show y%2^64&&&1%2^64=y%2
  rw [Nat.mod_eq_of_lt (by omega),show 1%2^64=1 by decide,Nat.and_one_is_mod]
 rw [e]
 exact bn rfl (by omega)
theorem TF {x r:Nat} {k:Int} (hk:k=(r:Int)) (hr:r<64) (hb:x* 2^r<2^63):IntKind.i64.wrap ((x:Int)* 2^min k.toNat IntKind.i64.bits)=((x* 2^r:Nat):Int):=by
 subst hk
 have e:min ((r:Int).toNat) IntKind.i64.bits=r:=by rw [Int.toNat_natCast];show min r 64=r;omega
 rw [e]
 exact bn (by norm_cast) hb
theorem Cq {v:Nat} (h:0<v):∃l,dg (16777216:Nat) (ow v)=(ow v%(16777216:Nat))::l∧0<ow v%(16777216:Nat):=by
 refine ⟨_,dK (by decide) (rY h), ?_⟩
 rcases Nat.eq_zero_or_pos (ow v%(16777216:Nat)) with h0|h0
 · have:=Cp h
   rw [show (16777216:Nat)=(16777216:Nat) from rfl,h0] at this;simp at this
 · exact h0
theorem At (k v:Nat) (hv:0<v) (hb:(dg (16777216:Nat) v).length<2^40):∀j o,o+j=oz v→aR (aI MD t20 k 75 0) (j+1) ⟨[(0, .bs gk o 1 (j+(dg (16777216:Nat) (ow v)).length)),(4, .pv (iv (24* o:Nat)))],[(gk,(List.replicate (oz v) 0++dg (16777216:Nat) (ow v)).map aJ)],[],[]⟩=some (.exit 0,⟨[(0, .bs gk (oz v) 1 (dg (16777216:Nat) (ow v)).length),(4, .pv (iv (24* oz v:Nat))),(10, .pv (bv false))],[(gk,(List.replicate (oz v) 0++dg (16777216:Nat) (ow v)).map aJ)],[],[]⟩)
 |0,o,h=>by
  have ho:o=oz v:=by omega
  subst ho
  rw [Nat.zero_add,Nat.zero_add]
  obtain ⟨l,e1,hx⟩:=Cq hv
  have el:(dg (16777216:Nat) (ow v)).length=l.length+1:=by rw [e1];rfl
  have hg:(List.replicate (oz v) 0++dg (16777216:Nat) (ow v))[oz v]? =some (ow v%(16777216:Nat)):=by
   rw [e1,List.getElem?_append_right (by simp)];simp
  exact aF (af (SH k _ _ _ _ _) ⟨⟨rfl,by omega⟩,qd hg rfl,beq_false_of_ne (by omega),trivial⟩) (by simp)
 |j+1,o,h=>by
  have hg:(List.replicate (oz v) 0++dg (16777216:Nat) (ow v))[o]? =some 0:=by
   rw [List.getElem?_append_left (by simp;omega),List.getElem?_replicate,if_pos (by omega)]
  have ho:oz v<2^40:=by
   have:=pV (b:=(16777216:Nat)) (by decide) (rY hv) (oz v)
   rw [DT hv] at this
   have:=congrArg List.length this
   rw [List.length_append,List.length_replicate] at this
   omega
  have key:=SI k o (j+1+(dg (16777216:Nat) (ow v)).length) 0 (24* o:Nat) (24* (o+1):Nat) ((List.replicate (oz v) 0++dg (16777216:Nat) (ow v)).map aJ)
  rw [show j+1+(dg (16777216:Nat) (ow v)).length - 1=j+(dg (16777216:Nat) (ow v)).length by omega] at key
  exact aW (af key ⟨⟨rfl,by omega⟩,qd hg rfl,rfl,⟨by omega,by omega,by omega⟩,rfl,by show _ - 1=_;omega,bn (by omega) (by omega),trivial⟩) (At k v hv hb j (o+1) (by omega))
theorem H8 (k v:Nat) (c:Int) (hv:0<v):∀j i,i+j=ok' v→aR (aI MD t20 k 75 1) (j+1) ⟨[(0, .bs gk (oz v) 1 (dg (16777216:Nat) (ow v)).length),(4, .pv (iv c)),(5, .pv (iv i))],[(gk,(List.replicate (oz v) 0++dg (16777216:Nat) (ow v)).map aJ)],[],[]⟩=some (.exit 2,⟨[(0, .bs gk (oz v) 1 (dg (16777216:Nat) (ow v)).length),(4, .pv (iv c)),(5, .pv (iv (ok' v))),(21, .pv (bv false))],[(gk,(List.replicate (oz v) 0++dg (16777216:Nat) (ow v)).map aJ)],[],[]⟩):=by
 have hok:=n5 v
 obtain ⟨l,e1,hx⟩:=Cq hv
 have el:(dg (16777216:Nat) (ow v)).length=l.length+1:=by rw [e1];rfl
 have hg:(List.replicate (oz v) 0++dg (16777216:Nat) (ow v))[oz v]? =some (ow v%(16777216:Nat)):=by
  rw [e1,List.getElem?_append_right (by simp)];simp
 have hlt:ow v%(16777216:Nat)<(16777216:Nat):=Nat.mod_lt _ (by decide)
 intro j
 induction j with
 |zero=>
  intro i h
  have hi:i=ok' v:=by omega
  subst hi
  have hb:=Cp hv
  have hle:=Nat.div_le_self (ow v%(16777216:Nat)) (2^ok' v)
  exact aF (af (SJ k _ _ (ow v%(16777216:Nat)) (ok' v) ((ow v%(16777216:Nat)) / 2^ok' v) ((ow v%(16777216:Nat)) / 2^ok' v%2) c _) ⟨⟨rfl,by omega⟩,qd hg rfl,A4 rfl (by omega),decide_eq_false (by omega),Ll _ (by omega),beq_false_of_ne (by rw [show (16777216:Nat)=(16777216:Nat) from rfl,hb];decide),trivial⟩) (by simp)
 |succ j ih=>
  intro i h
  have hb:=NB (v:=v) (j:=i) (by omega)
  have hle:=Nat.div_le_self (ow v%(16777216:Nat)) (2^i)
  exact aW (af (SK k _ _ (ow v%(16777216:Nat)) i ((ow v%(16777216:Nat)) / 2^i) ((ow v%(16777216:Nat)) / 2^i%2) c _) ⟨⟨rfl,by omega⟩,qd hg rfl,A4 rfl (by omega),decide_eq_false (by omega),Ll _ (by omega),by rw [show (16777216:Nat)=(16777216:Nat) from rfl,hb];rfl,bn (by omega) (by omega),trivial⟩) (ih (i+1) (by omega))
theorem CG {l m:List Nat} {i y:Nat}:(l++m).set (l.length+i) y=l++m.set i y:=by
 rw [List.set_append_right _ _ (by omega),Nat.add_sub_cancel_left]
theorem wV {l m:List Nat} {i x:Nat} (h:m[i]? =some x):(l++m)[l.length+i]? =some x:=by
 rw [List.getElem?_append_right (by omega),Nat.add_sub_cancel_left];exact h
def SC (v i:Nat) (c:Int) (e:List (Nat×AV)):St:=⟨(0, .bs gk (oz v) 1 (dg (16777216:Nat) (ow v)).length)::(4, .pv (iv c))::(5, .pv (iv (ok' v)))::(6, .pv (iv i))::e,[(gk,(List.replicate (oz v) 0++cR (ok' v) (dg (16777216:Nat) (ow v)) i).map aJ)],[],[]⟩
theorem FX (k v i:Nat) (c:Int) (hi:i<(dg (16777216:Nat) (ow v)).length) (hb:(dg (16777216:Nat) (ow v)).length<2^40):aI MD t20 k 75 2 (SC v i c [])=some (.normal,SC v (i+1) c []):=by
 have hok:=n5 v
 obtain ⟨x,hx⟩:=get_some hi
 have hxl:=dz (cD (b:=(16777216:Nat)) (by decide) (ow v)) hx
 have hst:=Eb (k:=ok' v) hx
 have WB:=GH (k:=ok' v) hx
 have hz:(List.replicate (oz v) 0).length=oz v:=List.length_replicate
 have hle:=Nat.div_le_self x (2^ok' v)
 generalize hW:dg (16777216:Nat) (ow v)=W at*
 have ll:=GJ (ok' v) W i
 have hg:(List.replicate (oz v) 0++cR (ok' v) W i)[oz v+i]? =some x:=by
  have:=wV (l:=List.replicate (oz v) 0) WB;rwa [hz] at this
 have va:=qd hg (o:=oz v+i* 1) (by omega)
 have Mr:∀y,oz v+i* 1+(aJ y).cells.length≤((List.replicate (oz v) 0++cR (ok' v) W i).map aJ).length:=by
  intro y
  rw [List.length_map,List.length_append,hz,ll];show _+1≤_;omega
 have hsp:∀y,ck ((List.replicate (oz v) 0++cR (ok' v) W i).map aJ) (oz v+i* 1) [aJ y] ((List.replicate (oz v) 0++(cR (ok' v) W i).set i y).map aJ):=by
  intro y
  refine mN (i:=oz v+i) ?_ (by rw [List.length_append,hz,ll];omega) (by omega)
  have:=CG (l:=List.replicate (oz v) 0) (m:=cR (ok' v) W i) (i:=i) (y:=y)
  rwa [hz] at this
 unfold SC
 rw [hW]
 cases hn:W[i+1]? with
 |none=>
  rw [hn] at hst
  simp only [Nat.add_zero] at hst
  have aac:W.length≤i+1:=List.getElem?_eq_none_iff.1 hn
  have h1:=hsp (x / 2^ok' v)
  rw [hst] at h1
  have key:=SN k (oz v) W.length i x (x / 2^ok' v) c (ok' v) ((List.replicate (oz v) 0++cR (ok' v) W i).map aJ) ((List.replicate (oz v) 0++cR (ok' v) W (i+1)).map aJ)
  exact af key ⟨decide_eq_true (by omega),⟨rfl,hi⟩,va,A4 rfl (by omega),decide_eq_false (by omega),⟨rfl,hi⟩,Mr _,h1,bn (by omega) (by omega),decide_eq_false (by omega),bn (by omega) (by omega),trivial⟩
 |some u=>
  rw [hn] at hst
  simp only at hst
  have hul:=gK hn
  have Xj:u<(16777216:Nat):=dz (hW ▸cD (b:=(16777216:Nat)) (by decide) (ow v)) hn
  have WC:=Ea (k:=ok' v) hn (x / 2^ok' v)
  have l2:((cR (ok' v) W i).set i (x / 2^ok' v)).length=W.length:=by rw [List.length_set,ll]
  have WE:(List.replicate (oz v) 0++(cR (ok' v) W i).set i (x / 2^ok' v))[oz v+(i+1)]? =some u:=by
   have:=wV (l:=List.replicate (oz v) 0) WC;rwa [hz] at this
  have Mp:(List.replicate (oz v) 0++(cR (ok' v) W i).set i (x / 2^ok' v))[oz v+i]? =some (x / 2^ok' v):=by
   have:=wV (l:=List.replicate (oz v) 0) (m:=(cR (ok' v) W i).set i (x / 2^ok' v)) (i:=i) (x:=x / 2^ok' v) (by rw [List.getElem?_set_self (by omega)])
   rwa [hz] at this
  have hp:u* 2^(24 - ok' v)<2^48:=by
   have h1:2^(24 - ok' v)≤2^24:=Nat.pow_le_pow_right (by decide) (by omega)
   calc u* 2^(24 - ok' v)≤u* 2^24:=Nat.mul_le_mul_left _ h1
    _<2^24* 2^24:=Nat.mul_lt_mul_of_pos_right Xj (by decide)
    _=2^48:=by decide
  obtain ⟨s2,kr⟩:∃s2,s2=u* 2^(24 - ok' v)%(16777216:Nat):=⟨_,rfl⟩
  have aao:s2<(16777216:Nat):=by rw [kr];exact Nat.mod_lt _ (by decide)
  have Sl:ck ((List.replicate (oz v) 0++(cR (ok' v) W i).set i (x / 2^ok' v)).map aJ) (oz v+i* 1) [aJ (x / 2^ok' v+s2)] ((List.replicate (oz v) 0++cR (ok' v) W (i+1)).map aJ):=by
   refine mN (i:=oz v+i) ?_ (by rw [List.length_append,hz,l2];omega) (by omega)
   have:=CG (l:=List.replicate (oz v) 0) (m:=(cR (ok' v) W i).set i (x / 2^ok' v)) (i:=i) (y:=x / 2^ok' v+s2)
   rw [hz,List.set_set] at this
   rw [kr,show (16777216:Nat)=2^24 by decide] at this
   rw [kr,show (16777216:Nat)=2^24 by decide,this,hst]
  have Sd:oz v+i* 1+(aJ (x / 2^ok' v+s2)).cells.length≤((List.replicate (oz v) 0++(cR (ok' v) W i).set i (x / 2^ok' v)).map aJ).length:=by
   rw [List.length_map,List.length_append,hz,l2];show _+1≤_;omega
  have key:=SO k (oz v) W.length i x (x / 2^ok' v) u (24 - ok' v) (u* 2^(24 - ok' v)) s2 (x / 2^ok' v+s2) c (ok' v) ((List.replicate (oz v) 0++cR (ok' v) W i).map aJ) ((List.replicate (oz v) 0++(cR (ok' v) W i).set i (x / 2^ok' v)).map aJ) ((List.replicate (oz v) 0++cR (ok' v) W (i+1)).map aJ)
  exact af key ⟨decide_eq_true (by omega),⟨rfl,hi⟩,va,A4 rfl (by omega),decide_eq_false (by omega),⟨rfl,hi⟩,Mr _,hsp _,bn (by omega) (by omega),decide_eq_true (by omega),⟨rfl,hi⟩,qd Mp (by omega),bn (by omega) (by omega),⟨rfl,by omega⟩,qd WE (by omega),bn (by omega) (by omega),TF rfl (by omega) (by omega),decide_eq_false (by omega),by rw [kr];exact fy _ _,rfl,bn (by omega) (by omega),⟨rfl,hi⟩,Sd,Sl,bn (by omega) (by omega),trivial⟩
theorem KS (v:Nat) (hv:0<v) (hb:(dg (16777216:Nat) v).length<2^39):dy P0 75 [.g ((dg (16777216:Nat) v).map aJ) 0 1 (dg (16777216:Nat) v).length] (.gt (oz v) (dg (16777216:Nat) (od v)).length [iv (tz v)]) ((gQ v).map aJ):=by
 have hz:(List.replicate (oz v) 0).length=oz v:=List.length_replicate
 have e0:=pV (b:=(16777216:Nat)) (by decide) (rY hv) (oz v)
 rw [DT hv] at e0
 have el:(dg (16777216:Nat) v).length=oz v+(dg (16777216:Nat) (ow v)).length:=by rw [e0,List.length_append,hz]
 obtain ⟨k,hk⟩:∃k,k=(dg (16777216:Nat) v).length+30:=⟨_,rfl⟩
 have hok:=n5 v
 have l1:=bH (show oz v+1≤k by omega) (At k v hv (by omega) (oz v) 0 (by omega))
 have l2:=bH (show ok' v+1≤k by omega) (H8 k v ((24* oz v:Nat):Int) hv (ok' v) 0 (by omega))
 have l3:=cK (f:=aI MD t20 k 75 2) (S:=fun i=>SC v i ((24* oz v:Nat):Int) []) (n:=(dg (16777216:Nat) (ow v)).length) (fun i hi=>FX k v i _ hi (by omega))
  (af (SL k (oz v) (dg (16777216:Nat) (ow v)).length (dg (16777216:Nat) (ow v)).length _ _ _) ⟨decide_eq_false (by omega),trivial⟩) (by simp) k (by omega)
 unfold SC at l3
 rw [Ec,GG] at l3
 have tr:=yo (p:=List.replicate (oz v) 0) (l:=shr (ok' v) (dg (16777216:Nat) (ow v))) (by rw [gU];omega) (Au v)
 rw [show (16777216:Nat)=(16777216:Nat) from rfl,Av hv,hz,gU] at tr
 have hlen:((gQ v).map aJ).length=((dg (16777216:Nat) v).map aJ).length:=by
  rw [List.length_map,List.length_map,gQ,List.length_append,gU,hz,el]
 rw [←el,←e0] at l1
 have hw:IntKind.i64.wrap (((24* oz v:Nat):Int)+((ok' v:Nat):Int))=((tz v:Nat):Int):=by
  refine bn ?_ ?_
  · unfold oz ok';omega
  · have:tz v=24* oz v+ok' v:=by unfold oz ok';omega
    omega
 rw [←e0] at l2
 rw [←e0] at l3
 exact eu ah so (by rfl) (SQ k (oz v) (dg (16777216:Nat) (ow v)).length (dg (16777216:Nat) v).length _ ((24* oz v:Nat):Int) (ok' v:Nat) (tz v:Nat) ((dg (16777216:Nat) v).map aJ) ((gQ v).map aJ)) ⟨gi _,hlen,l1,l2,l3,tr,hw,trivial⟩
end Go.Proofs.YtibbgjafjhcemaaDoor.Cul
