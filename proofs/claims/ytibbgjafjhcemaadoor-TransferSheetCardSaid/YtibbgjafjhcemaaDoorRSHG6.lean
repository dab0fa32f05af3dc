/- Part of a proof by an abstract machine for the program's code: lemmas, without conditions of their own beyond those that each states. (Made smaller by a program: short names, no comments.) -/
import Derived.Test.YtibbgjafjhcemaaDoorRSHG5
set_option linter.unusedVariables false
set_option linter.unusedSimpArgs false
set_option maxRecDepth 100000
namespace Go.Proofs.YtibbgjafjhcemaaDoor.Cul
open Go Go.RowKit
theorem CF (x:aj):NZ [.ag x.cells]=some (one (iv (cE x))):=bl (enc:=fun x:aj=>[.ag x.cells]) (q6 fun _ _=>aj.bG) trivial
theorem N0 (x:aj):aA P0 40 [.ag x.cells] (one (iv (cE x))):=by
 unfold cE
 by_cases h:x.v<0
 · rw [if_pos h];exact ai ah Ek (by rfl) (RD 1 x) ⟨decide_eq_true h,trivial⟩
 · rw [if_neg h];exact ai ah Ek (by rfl) (RE 1 x) ⟨decide_eq_false h,trivial⟩
theorem PF:aP MD.P v2:=aO (au (aE fun x _=>N0 x) aL)
theorem CE (x:aj):0≤cE x∧cE x≤1:=by unfold cE;split<;>omega
theorem EG (x y:aj):aA P0 42 [.ag x.cells, .ag y.cells, .el [.fn 40 []]] (one (iv (cE x - cE y))):=by
 have h1:=CE x
 have h2:=CE y
 exact ai ah PF (by rfl) (RF 1 x y (cE x) (cE y) (cE x - cE y)) ⟨CF x,CF y,wrap64 (by omega) (by omega),trivial⟩
theorem jP (x y:aj):Hv [.ag x.cells, .ag y.cells, .el [.fn 40 []]]=some (one (iv (cE x - cE y))):=
 bl (enc:=fun p:aj×aj=>[.ag p.1.cells, .ag p.2.cells, .el [.fn 40 []]]) (a:=(x,y)) (fun a b e=>by
  simp only [List.cons.injEq,and_true,PV.ag.injEq] at e
  rw [aj.bG e.1,aj.bG e.2]) trivial
theorem JX:aP MD.P v4:=aO (au (aE fun p _=>EG p.1 p.2) aL)
def kS (x:aj):Bool:= !decide (x.v<0)
theorem pg (x:aj):cE x=if kS x then 1 else 0:=by
 unfold cE kS
 by_cases h:x.v<0<;>simp [h]
abbrev FH (n:Nat) (a b i:Int) (j:Int) (cs:List PV):St:=⟨[(0, .bs gk 0 3 n),(1, .pv (iv a)),(2, .pv (iv b)),(3, .pv aX),(8, .pv (iv i)),(9, .pv (iv j))],[(gk,cs)],[],[]⟩
abbrev M1 (n:Nat) (a b i:Int) (j:Int) (cs:List PV):St:=⟨[(0, .bs gk 0 3 n),(1, .pv (iv a)),(2, .pv (iv b)),(3, .pv aX),(8, .pv (iv i)),(9, .pv (iv j)),(34, .pv (bv false))],[(gk,cs)],[],[]⟩
theorem B9 {k a:Nat} {b i:Int} {l:List aj} {j:Nat} (hs:l.length<2^60) (h:j=a∨(a<j∧∃x y,l[j]? =some x∧l[j - 1]? =some y∧(kS x=true∨kS y=false))):
  aI MD v4 k 79 1 (FH l.length a b i j (aq l))=some (.exit 2,M1 l.length a b i j (aq l)):=by
 rcases h with rfl|⟨h,x,y,hx,hy,hk⟩
 · exact af (zsC k l.length j b i j (aq l)) ⟨decide_eq_false (by omega),trivial⟩
 · have h1:j<l.length:=(List.getElem?_eq_some_iff.1 hx).1
   have h2:j - 1<l.length:=(List.getElem?_eq_some_iff.1 hy).1
   have hr:¬(cE x - cE y<0):=by
    rw [pg,pg]
    rcases hk with hk|hk<;>rw [hk]
    · simp;split<;>omega
    · simp;split<;>omega
   exact af (zsB k l.length (j - 1) j a b i (cE x - cE y) (aq l) x y) ⟨decide_eq_true (by omega),⟨rfl,h1⟩,fN hx,bu (by omega) (by omega) (by omega),⟨rfl,h2⟩,fN hy,jP x y,decide_eq_false hr,trivial⟩
theorem Ki {k a:Nat} {b i:Int} {l:List aj} {j:Nat} {x y:aj} (hs:l.length<2^60) (h:a≤j) (hx:l[j+1]? =some x) (hy:l[j]? =some y) (WN:kS x=false) (WQ:kS y=true):
  aI MD v4 k 79 1 (FH l.length a b i (j+1:Nat) (aq l))=some (.normal,FH l.length a b i j (aq ((l.set (j+1) y).set j x))):=by
 have h1:j+1<l.length:=(List.getElem?_eq_some_iff.1 hx).1
 have h2:j<l.length:=(List.getElem?_eq_some_iff.1 hy).1
 have hr:cE x - cE y<0:=by rw [pg,pg,WN,WQ];simp
 obtain ⟨p1,p2⟩:=mh mA (l:=l) y h1
 obtain ⟨q1,q2⟩:=mh mA (l:=l.set (j+1) y) x (i:=j) (by simpa using h2)
 have L1:=fN hx
 have L2:=fN hy
 have w:IntKind.i64.wrap (((j+1:Nat):Int) - 1)=(j:Int):=bu (by omega) (by omega) (by omega)
 exact af (zsA k l.length j (j+1) a b i (cE x - cE y) (aq l) (aq (l.set (j+1) y)) (aq ((l.set (j+1) y).set j x)) x y)
  ⟨decide_eq_true (by omega),⟨rfl,h1⟩,L1,w,⟨rfl,h2⟩,L2,jP x y,decide_eq_true hr,w,w,⟨rfl,h2⟩,⟨rfl,h1⟩,L2,L1,⟨rfl,h1⟩,p1,p2,⟨rfl,h2⟩,q1,q2,L1,L2,⟨rfl,h1⟩,p1,p2,⟨rfl,h2⟩,q1,q2,rfl,w,trivial⟩
theorem B8 {k:Nat} {b i:Int} {P Z S:List aj} {x:aj} (hx:kS x=false) (hz:∀z∈Z,kS z=false):∀(d:Nat) (O1 O2:List aj),O1.length=d→(∀o∈O1,kS o=true)→(P++(Z++(O1++x::(O2++S)))).length<2^60→
  aR (aI MD v4 k 79 1) (d+1) (FH (P++(Z++(O1++x::(O2++S)))).length P.length b i (P.length+Z.length+O1.length:Nat) (aq (P++(Z++(O1++x::(O2++S))))))=
   some (.exit 2,M1 (P++(Z++(O1++x::(O2++S)))).length P.length b i (P.length+Z.length:Nat) (aq (P++(Z++x::(O1++(O2++S))))))
 |0,O1,O2,hd,ho,hs=>by
  obtain rfl:=List.length_eq_zero_iff.1 hd
  refine aF ?_ (by simp)
  simp only [List.nil_append,List.length_nil,Nat.add_zero] at hs ⊢
  refine B9 hs ?_
  rcases List.eq_nil_or_concat Z with rfl|⟨Z',z,rfl⟩
  · exact .inl (by simp)
  · refine .inr ⟨by simp,x,z, ?_, ?_, .inr (hz z (by simp))⟩
    · have:P++((Z'++[z])++x::(O2++S))=(P++(Z'++[z]))++x::(O2++S):=by simp
      rw [List.concat_eq_append,this,show P.length+(Z'++[z]).length=(P++(Z'++[z])).length by simp]
      exact dA _ _ _
    · have:P++((Z'++[z])++x::(O2++S))=(P++Z')++z::(x::(O2++S)):=by simp
      rw [List.concat_eq_append,this,show P.length+(Z'++[z]).length - 1=(P++Z').length by simp only [List.length_append,List.length_singleton];omega]
      exact dA _ _ _
 |d+1,O1,O2,hd,ho,hs=>by
  rcases List.eq_nil_or_concat O1 with rfl|⟨O',o,rfl⟩
  · simp at hd
  · rw [List.concat_eq_append] at hd ho hs ⊢
    simp only [List.length_append,List.length_singleton,Nat.add_right_cancel_iff] at hd
    have e1:P++(Z++((O'++[o])++x::(O2++S)))=(P++(Z++O'))++o::(x::(O2++S)):=by simp
    have e2:P++(Z++((O'++[o])++x::(O2++S)))=(P++(Z++(O'++[o])))++x::(O2++S):=by simp
    have a1:P.length+Z.length+O'.length=(P++(Z++O')).length:=by simp;omega
    have a2:P.length+Z.length+O'.length+1=(P++(Z++(O'++[o]))).length:=by simp;omega
    have gx:(P++(Z++((O'++[o])++x::(O2++S))))[P.length+Z.length+O'.length+1]? =some x:=by rw [e2,a2];exact dA _ _ _
    have go:(P++(Z++((O'++[o])++x::(O2++S))))[P.length+Z.length+O'.length]? =some o:=by rw [e1,a1];exact dA _ _ _
    have r:=Ki (k:=k) (a:=P.length) (b:=b) (i:=i) hs (by omega) gx go hx (ho o (by simp))
    have e3:((P++(Z++((O'++[o])++x::(O2++S)))).set (P.length+Z.length+O'.length+1) o).set (P.length+Z.length+O'.length) x=P++(Z++(O'++x::((o::O2)++S))):=by
     rw [e2,a2,jZ,a1]
     have e4:(P++(Z++(O'++[o])))++o::(O2++S)=(P++(Z++O'))++o::(o::(O2++S)):=by simp
     rw [e4,jZ]
     simp
    rw [e3] at r
    have hl:(P++(Z++((O'++[o])++x::(O2++S)))).length=(P++(Z++(O'++x::((o::O2)++S)))).length:=by simp only [List.length_append,List.length_cons,List.length_nil];omega
    have ih:=B8 (k:=k) (b:=b) (i:=i) (P:=P) (Z:=Z) (S:=S) hx hz d O' (o::O2) hd (fun q hq=>ho q (by simp [hq])) (by rw [←hl];exact hs)
    rw [←hl] at ih
    have e5:O'++(o::O2++S)=O'++[o]++(O2++S):=by simp
    rw [e5] at ih
    have e6:P.length+Z.length+(O'++[o]).length=P.length+Z.length+O'.length+1:=by simp only [List.length_append,List.length_singleton];omega
    rw [e6]
    exact aW r ih
theorem CR (l:List aj) (x:aj):ss kS (l++[x])=if kS x then ss kS l++[x] else (l.filter fun x=> !kS x)++x::l.filter kS:=by
 unfold ss
 simp only [List.filter_append,List.filter_cons,List.filter_nil]
 cases h:kS x<;>simp
abbrev Cm (n:Nat) (a b i:Int) (cs:List PV):St:=⟨[(0, .bs gk 0 3 n),(1, .pv (iv a)),(2, .pv (iv b)),(3, .pv aX),(8, .pv (iv i))],[(gk,cs)],[],[]⟩
abbrev Q6 (n:Nat) (a b i:Int) (cs:List PV):St:=⟨[(0, .bs gk 0 3 n),(1, .pv (iv a)),(2, .pv (iv b)),(3, .pv aX),(8, .pv (iv i)),(14, .pv (bv false))],[(gk,cs)],[],[]⟩
theorem Ig {k:Nat} {b:Nat} {P L1 L2 S:List aj} {x:aj} (hL:L1≠[]) (hk:L1.length+1≤k) (hb:P.length+L1.length<b) (hs:(P++(ss kS L1++x::(L2++S))).length<2^60):
  aI MD v4 k 79 0 (Cm (P++(ss kS L1++x::(L2++S))).length P.length b (P.length+L1.length:Nat) (aq (P++(ss kS L1++x::(L2++S)))))=
   some (.normal,Cm (P++(ss kS L1++x::(L2++S))).length P.length b (P.length+(L1.length+1):Nat) (aq (P++(ss kS (L1++[x])++(L2++S))))):=by
 have qP:=dm kS L1
 have h0:0<L1.length:=List.length_pos_iff.2 hL
 have fin:∀(j:Nat) (l':List aj),aR (aI MD v4 k 79 1) k (FH (P++(ss kS L1++x::(L2++S))).length P.length b (P.length+L1.length:Nat) (P.length+L1.length:Nat) (aq (P++(ss kS L1++x::(L2++S)))))=some (.exit 2,M1 (P++(ss kS L1++x::(L2++S))).length P.length b (P.length+L1.length:Nat) j (aq l'))→
   aI MD v4 k 79 0 (Cm (P++(ss kS L1++x::(L2++S))).length P.length b (P.length+L1.length:Nat) (aq (P++(ss kS L1++x::(L2++S)))))=some (.normal,Cm (P++(ss kS L1++x::(L2++S))).length P.length b (P.length+(L1.length+1):Nat) (aq l')):=fun j l' lp=>
  af (zsD k _ P.length b (P.length+L1.length:Nat) j (P.length+(L1.length+1):Nat) _ (aq l')) ⟨decide_eq_true (by omega),lp,bu (by simp only [List.length_append] at hs;omega) (by simp only [List.length_append] at hs;omega) (by omega),trivial⟩
 cases hx:kS x with
 |true=>
  have e:ss kS (L1++[x])++(L2++S)=ss kS L1++x::(L2++S):=by rw [CR,hx,if_pos rfl];simp
  rw [e]
  refine fin (P.length+L1.length) _ (bH (n:=1) (by omega) (aF (B9 hs ?_) (by simp)))
  have hne:ss kS L1≠[]:=fun e=>by rw [e] at qP;simp at qP;omega
  obtain ⟨T,y,hT⟩:∃T y,ss kS L1=T++[y]:=by
   rcases List.eq_nil_or_concat (ss kS L1) with h|⟨T,y,h⟩
   · exact absurd h hne
   · exact ⟨T,y,by rw [h,List.concat_eq_append]⟩
  refine .inr ⟨by omega,x,y, ?_, ?_, .inl hx⟩
  · rw [←qP]
    have:P++(ss kS L1++x::(L2++S))=(P++ss kS L1)++x::(L2++S):=by simp
    rw [this,show P.length+(ss kS L1).length=(P++ss kS L1).length by simp]
    exact dA _ _ _
  · rw [←qP,hT]
    have:P++((T++[y])++x::(L2++S))=(P++T)++y::(x::(L2++S)):=by simp
    rw [this,show P.length+(T++[y]).length - 1=(P++T).length by simp only [List.length_append,List.length_singleton];omega]
    exact dA _ _ _
 |false=>
  have e:ss kS (L1++[x])++(L2++S)=(L1.filter fun x=> !kS x)++x::(L1.filter kS++(L2++S)):=by rw [CR,hx];simp
  rw [e]
  have e2:P++(ss kS L1++x::(L2++S))=P++((L1.filter fun x=> !kS x)++(L1.filter kS++x::(L2++S))):=by unfold ss;simp
  have jS:(L1.filter fun x=> !kS x).length+(L1.filter kS).length=L1.length:=by rw [←qP];unfold ss;simp
  have lp:=B8 (k:=k) (b:=b) (i:=(P.length+L1.length:Nat)) (P:=P) (Z:=L1.filter fun x=> !kS x) (S:=S) hx (fun z hz=>by simpa using (List.mem_filter.1 hz).2) _ (L1.filter kS) L2 rfl (fun o ho=>(List.mem_filter.1 ho).2) (by rw [←e2];exact hs)
  rw [←e2,Nat.add_assoc,jS] at lp
  exact fin _ _ (bH (by have:(L1.filter kS).length≤L1.length:=by omega
                        omega) lp)
theorem Cn {k b:Nat} {P S:List aj}:∀(L2 L1:List aj),L1≠[]→L1.length+L2.length+1≤k→P.length+L1.length+L2.length=b→(P++(ss kS L1++(L2++S))).length<2^60→
  aR (aI MD v4 k 79 0) (L2.length+1) (Cm (P++(ss kS L1++(L2++S))).length P.length b (P.length+L1.length:Nat) (aq (P++(ss kS L1++(L2++S)))))=
   some (.exit 0,Q6 (P++(ss kS L1++(L2++S))).length P.length b b (aq (P++(ss kS (L1++L2)++S))))
 |[],L1,hL,hk,hb,hs=>by
  simp only [List.length_nil,Nat.add_zero] at hb
  subst hb
  refine aF ?_ (by simp)
  simp only [List.nil_append,List.append_nil]
  exact af (Rx k _ P.length (P.length+L1.length:Nat) (P.length+L1.length:Nat) _) ⟨decide_eq_false (by omega),trivial⟩
 |x::L2,L1,hL,hk,hb,hs=>by
  simp only [List.length_cons] at hk hb
  have r:=Ig (k:=k) (b:=b) (P:=P) (L1:=L1) (L2:=L2) (S:=S) (x:=x) hL (by omega) (by omega) hs
  have hl:(P++(ss kS L1++x::(L2++S))).length=(P++(ss kS (L1++[x])++(L2++S))).length:=by
   simp only [List.length_append,List.length_cons,dm,List.length_nil];omega
  have ih:=Cn (k:=k) (b:=b) (P:=P) (S:=S) L2 (L1++[x]) (by simp) (by simp only [List.length_append,List.length_singleton];omega) (by simp only [List.length_append,List.length_singleton];omega) (by rw [←hl];exact hs)
  rw [←hl] at ih
  have e1:P.length+(L1++[x]).length=P.length+(L1.length+1):=by simp
  rw [e1,List.append_assoc] at ih
  exact aW r ih
theorem Af (P L S:List aj) (hs:(P++(L++S)).length<2^60):
  dy P0 79 [.g (aq (P++(L++S))) 0 3 (P++(L++S)).length, .p (iv P.length), .p (iv (P.length+L.length:Nat)), .p aX] (.pv (.an [])) (aq (P++(ss kS L++S))):=by
 have hl:(P++(ss kS L++S)).length=(P++(L++S)).length:=by simp only [List.length_append,dm]
 have w:IntKind.i64.wrap ((P.length:Int)+1)=((P.length+1:Nat):Int):=bu (by simp only [List.length_append] at hs;omega) (by simp only [List.length_append] at hs;omega) (by omega)
 match L with
 |[]=>
  have e0:ss kS ([]:List aj)=[]:=rfl
  rw [e0]
  simp only [List.nil_append,List.length_nil,Nat.add_zero]
  have r:=af (Rx (S.length+1) (P++S).length P.length P.length (P.length+1:Nat) (aq (P++S))) ⟨decide_eq_false (by omega),trivial⟩
  have lp:aR (aI MD v4 (S.length+1) 79 0) (S.length+1) (Cm (P++S).length P.length P.length (P.length+1:Nat) (aq (P++S)))=some (.exit 0,Q6 (P++S).length P.length P.length (P.length+1:Nat) (aq (P++S))):=aF r (by simp)
  exact eu ah JX (by rfl) (Ry (S.length+1) (P++S).length P.length P.length (P.length+1:Nat) (P.length+1:Nat) (aq (P++S)) (aq (P++S)))
   ⟨iw _,rfl,w,lp,trivial⟩
 |x::L=>
  have e0:ss kS [x]=[x]:=by unfold ss;simp only [List.filter_cons,List.filter_nil];cases kS x<;>rfl
  have lp:=Cn (k:=L.length+2) (b:=P.length+(x::L).length) (P:=P) (S:=S) L [x] (by simp) (by simp;omega) (by simp;omega) (by rw [e0];simpa using hs)
  have lp:=bH (m:=L.length+2) (by omega) lp
  rw [e0] at lp
  exact eu ah JX (by rfl) (Ry (L.length+2) (P++(x::L++S)).length P.length (P.length+(x::L).length:Nat) (P.length+1:Nat) (P.length+(x::L).length:Nat) (aq (P++(x::L++S))) (aq (P++(ss kS (x::L)++S))))
   ⟨iw _,by rw [cM,cM,hl],w,lp,trivial⟩
end Go.Proofs.YtibbgjafjhcemaaDoor.Cul
set_option maxHeartbeats 2000000
namespace Go.Proofs.YtibbgjafjhcemaaDoor.Cul
open Go Go.RowKit
noncomputable def NO:List MA→Option (MR×List PV):=pz (fun x:List aj×Nat×Nat×Nat×PV=>(x.2.1<x.2.2.1∧x.2.2.1<x.2.2.2.1)∧x.2.2.2.1≤x.1.length∧x.1.length<2^60) (fun x=>[.g (aq x.1) 0 3 x.1.length, .p (iv x.2.1), .p (iv x.2.2.1), .p (iv x.2.2.2.1), .p x.2.2.2.2]) (fun x=>(.pv (.an []),aq (JC x.1 x.2.1 x.2.2.1 x.2.2.2.1)))
noncomputable def v6 (T:List MA→Option (MR×List PV)):Cl:=oD [(42,Hv)] [(91,NO),(80,T)] []
def kR:List Code→Code
 |[]=> .skip
 |c::l=> .seq c (kR l)
def cX:Code→Code
 | .seq a _=>a
 |c=>c
def YY:Code→Code
 | .seq _ b=>b
 |c=>c
noncomputable def bX:Nat→Code
 |0=>(((MD.P.funcs[80]?).bind (·.body))).getD .skip
 |n+1=>YY (bX n)
noncomputable def iB (T:List MA→Option (MR×List PV)) (k:Nat) (c:Code) (st:St) (s:List El):Option (Ow (Xt×St)):=dO MD.P (v6 T) MD.iter k (MD.note 80) c st s
theorem ZX (T:List MA→Option (MR×List PV)) (k n i j h a:Nat) (I J s r:Int) (cs:List PV) (x y:aj):ak MD (v6 T) k 80 0 ⟨[(0, .bs gk 0 3 n),(1, .pv (iv a)),(4, .pv aX),(10, .pv (iv i)),(11, .pv (iv j))],[(gk,cs)],[],[]⟩ [.c true, .i 36 s, .i 37 s, .i 38 (h:Nat), .i 39 (h:Nat), .j 43 h, .e 44 (.ag x.cells), .j 47 a, .e 48 (.ag y.cells), .r (one (iv r)), .c true, .i 52 I]=
 some ((Xt.normal,St.mk [(0,AV.bs 1000000 0 3 n),(1,AV.pv (iv (↑a:Int))),(4,AV.pv (PV.fn 42 [PV.el [PV.fn 40 []]])),(10,AV.pv (iv I)),(11,AV.pv (iv (↑j:Int)))] [(1000000,cs)] [] []),[],[decide ((↑i:Int)<(↑j:Int))=true,IntKind.i64.wrap ((↑i:Int)+(↑j:Int))=s,IntKind.u64.wrap s=s,s.fdiv ((2:Int)^min (Int.toNat (1:Int)) IntKind.u64.bits)=(↑h:Int),false=false,IntKind.i64.wrap (↑h:Int)=(↑h:Int),aG (↑h:Int) n h,Ld MD.P 36 cs (0+h* 3) (PV.ag x.cells),aG (↑a:Int) n a,Ld MD.P 36 cs (0+a* 3) (PV.ag y.cells),aa (v6 T) 42 [PV.ag x.cells,PV.ag y.cells,PV.el [PV.fn 40 []]] (RV.mk (iv r) none),decide (r<(0:Int))=true,IntKind.i64.wrap ((↑h:Int)+(1:Int))=I]):=by kernel_rfl
theorem ZY (T:List MA→Option (MR×List PV)) (k n i j h a:Nat) (I J s r:Int) (cs:List PV) (x y:aj):ak MD (v6 T) k 80 0 ⟨[(0, .bs gk 0 3 n),(1, .pv (iv a)),(4, .pv aX),(10, .pv (iv i)),(11, .pv (iv j))],[(gk,cs)],[],[]⟩ [.c true, .i 36 s, .i 37 s, .i 38 (h:Nat), .i 39 (h:Nat), .j 43 h, .e 44 (.ag x.cells), .j 47 a, .e 48 (.ag y.cells), .r (one (iv r)), .c false]=
 some ((Xt.normal,St.mk [(0,AV.bs 1000000 0 3 n),(1,AV.pv (iv (↑a:Int))),(4,AV.pv (PV.fn 42 [PV.el [PV.fn 40 []]])),(10,AV.pv (iv (↑i:Int))),(11,AV.pv (iv (↑h:Int)))] [(1000000,cs)] [] []),[],[decide ((↑i:Int)<(↑j:Int))=true,IntKind.i64.wrap ((↑i:Int)+(↑j:Int))=s,IntKind.u64.wrap s=s,s.fdiv ((2:Int)^min (Int.toNat (1:Int)) IntKind.u64.bits)=(↑h:Int),false=false,IntKind.i64.wrap (↑h:Int)=(↑h:Int),aG (↑h:Int) n h,Ld MD.P 36 cs (0+h* 3) (PV.ag x.cells),aG (↑a:Int) n a,Ld MD.P 36 cs (0+a* 3) (PV.ag y.cells),aa (v6 T) 42 [PV.ag x.cells,PV.ag y.cells,PV.el [PV.fn 40 []]] (RV.mk (iv r) none),decide (r<(0:Int))=false]):=by kernel_rfl
theorem ZZ (T:List MA→Option (MR×List PV)) (k n:Nat) (a i j:Int) (cs:List PV):ak MD (v6 T) k 80 0 ⟨[(0, .bs gk 0 3 n),(1, .pv (iv a)),(4, .pv aX),(10, .pv (iv i)),(11, .pv (iv j))],[(gk,cs)],[],[]⟩ [.c false]=
 some ((Xt.exit 0,St.mk [(0,AV.bs 1000000 0 3 n),(1,AV.pv (iv a)),(4,AV.pv (PV.fn 42 [PV.el [PV.fn 40 []]])),(10,AV.pv (iv i)),(11,AV.pv (iv j)),(33,AV.pv (bv false))] [(1000000,cs)] [] []),[],[decide (i<j)=false]):=by kernel_rfl
theorem Z0 (T:List MA→Option (MR×List PV)) (k n J K:Nat) (i I:Int) (cs aZ aK:List PV) (x y:aj):ak MD (v6 T) k 80 1 ⟨[(0, .bs gk 0 3 n),(10, .pv (iv i)),(13, .pv (iv J))],[(gk,cs)],[],[]⟩ [.i 57 I, .c true, .i 65 K, .i 68 K, .j 69 K, .j 73 J, .e 70 (.ag y.cells), .e 74 (.ag x.cells), .j 75 J, .s aZ, .j 76 K, .s aK, .e 74 (.ag x.cells), .e 70 (.ag y.cells), .j 75 J, .s aZ, .j 76 K, .s aK, .i 60 K]=
 some ((Xt.normal,St.mk [(0,AV.bs 1000000 0 3 n),(10,AV.pv (iv i)),(13,AV.pv (iv (↑K:Int)))] [(1000000,aK)] [] []),[],[IntKind.i64.wrap (i - (1:Int))=I,decide ((↑J:Int)<I)=true,IntKind.i64.wrap ((↑J:Int)+(1:Int))=(↑K:Int),IntKind.i64.wrap ((↑J:Int)+(1:Int))=(↑K:Int),aG (↑K:Int) n K,aG (↑J:Int) n J,Ld MD.P 36 cs (0+K* 3) (PV.ag y.cells),Ld MD.P 36 cs (0+J* 3) (PV.ag x.cells),aG (↑J:Int) n J,0+J* 3+3≤cs.length,ck cs (0+J* 3) y.cells aZ,aG (↑K:Int) n K,0+K* 3+3≤aZ.length,ck aZ (0+K* 3) x.cells aK,Ld MD.P 36 cs (0+J* 3) (PV.ag x.cells),Ld MD.P 36 cs (0+K* 3) (PV.ag y.cells),aG (↑J:Int) n J,0+J* 3+3≤cs.length,ck cs (0+J* 3) y.cells aZ,aG (↑K:Int) n K,0+K* 3+3≤aZ.length,ck aZ (0+K* 3) x.cells aK,St.mk [(0,AV.bs 1000000 0 3 n),(10,AV.pv (iv i)),(13,AV.pv (iv (↑J:Int)))] [(1000000,aK)] [] []=St.mk [(0,AV.bs 1000000 0 3 n),(10,AV.pv (iv i)),(13,AV.pv (iv (↑J:Int)))] [(1000000,aK)] [] [],IntKind.i64.wrap ((↑J:Int)+(1:Int))=(↑K:Int)]):=by kernel_rfl
theorem Z1 (T:List MA→Option (MR×List PV)) (k n:Nat) (i j I:Int) (cs:List PV):ak MD (v6 T) k 80 1 ⟨[(0, .bs gk 0 3 n),(10, .pv (iv i)),(13, .pv (iv j))],[(gk,cs)],[],[]⟩ [.i 57 I, .c false]=
 some ((Xt.exit 2,St.mk [(0,AV.bs 1000000 0 3 n),(10,AV.pv (iv i)),(13,AV.pv (iv j)),(58,AV.pv (bv false))] [(1000000,cs)] [] []),[],[IntKind.i64.wrap (i - (1:Int))=I,decide (j<I)=false]):=by kernel_rfl
theorem Z2 (T:List MA→Option (MR×List PV)) (k n i j h m:Nat) (I s r:Int) (cs:List PV) (x y:aj):ak MD (v6 T) k 80 2 ⟨[(0, .bs gk 0 3 n),(2, .pv (iv m)),(4, .pv aX),(14, .pv (iv i)),(15, .pv (iv j))],[(gk,cs)],[],[]⟩ [.c true, .i 88 s, .i 89 s, .i 90 (h:Nat), .i 91 (h:Nat), .j 95 m, .e 96 (.ag x.cells), .j 99 h, .e 100 (.ag y.cells), .r (one (iv r)), .c false, .i 105 I]=
 some ((Xt.normal,St.mk [(0,AV.bs 1000000 0 3 n),(2,AV.pv (iv (↑m:Int))),(4,AV.pv (PV.fn 42 [PV.el [PV.fn 40 []]])),(14,AV.pv (iv I)),(15,AV.pv (iv (↑j:Int)))] [(1000000,cs)] [] []),[],[decide ((↑i:Int)<(↑j:Int))=true,IntKind.i64.wrap ((↑i:Int)+(↑j:Int))=s,IntKind.u64.wrap s=s,s.fdiv ((2:Int)^min (Int.toNat (1:Int)) IntKind.u64.bits)=(↑h:Int),false=false,IntKind.i64.wrap (↑h:Int)=(↑h:Int),aG (↑m:Int) n m,Ld MD.P 36 cs (0+m* 3) (PV.ag x.cells),aG (↑h:Int) n h,Ld MD.P 36 cs (0+h* 3) (PV.ag y.cells),aa (v6 T) 42 [PV.ag x.cells,PV.ag y.cells,PV.el [PV.fn 40 []]] (RV.mk (iv r) none),decide (r<(0:Int))=false,IntKind.i64.wrap ((↑h:Int)+(1:Int))=I]):=by kernel_rfl
theorem Z3 (T:List MA→Option (MR×List PV)) (k n i j h m:Nat) (s r:Int) (cs:List PV) (x y:aj):ak MD (v6 T) k 80 2 ⟨[(0, .bs gk 0 3 n),(2, .pv (iv m)),(4, .pv aX),(14, .pv (iv i)),(15, .pv (iv j))],[(gk,cs)],[],[]⟩ [.c true, .i 88 s, .i 89 s, .i 90 (h:Nat), .i 91 (h:Nat), .j 95 m, .e 96 (.ag x.cells), .j 99 h, .e 100 (.ag y.cells), .r (one (iv r)), .c true]=
 some ((Xt.normal,St.mk [(0,AV.bs 1000000 0 3 n),(2,AV.pv (iv (↑m:Int))),(4,AV.pv (PV.fn 42 [PV.el [PV.fn 40 []]])),(14,AV.pv (iv (↑i:Int))),(15,AV.pv (iv (↑h:Int)))] [(1000000,cs)] [] []),[],[decide ((↑i:Int)<(↑j:Int))=true,IntKind.i64.wrap ((↑i:Int)+(↑j:Int))=s,IntKind.u64.wrap s=s,s.fdiv ((2:Int)^min (Int.toNat (1:Int)) IntKind.u64.bits)=(↑h:Int),false=false,IntKind.i64.wrap (↑h:Int)=(↑h:Int),aG (↑m:Int) n m,Ld MD.P 36 cs (0+m* 3) (PV.ag x.cells),aG (↑h:Int) n h,Ld MD.P 36 cs (0+h* 3) (PV.ag y.cells),aa (v6 T) 42 [PV.ag x.cells,PV.ag y.cells,PV.el [PV.fn 40 []]] (RV.mk (iv r) none),decide (r<(0:Int))=true]):=by kernel_rfl
theorem Z4 (T:List MA→Option (MR×List PV)) (k n:Nat) (m i j:Int) (cs:List PV):ak MD (v6 T) k 80 2 ⟨[(0, .bs gk 0 3 n),(2, .pv (iv m)),(4, .pv aX),(14, .pv (iv i)),(15, .pv (iv j))],[(gk,cs)],[],[]⟩ [.c false]=
 some ((Xt.exit 4,St.mk [(0,AV.bs 1000000 0 3 n),(2,AV.pv (iv m)),(4,AV.pv (PV.fn 42 [PV.el [PV.fn 40 []]])),(14,AV.pv (iv i)),(15,AV.pv (iv j)),(85,AV.pv (bv false))] [(1000000,cs)] [] []),[],[decide (i<j)=false]):=by kernel_rfl
theorem Z5 (T:List MA→Option (MR×List PV)) (k n J K:Nat) (i:Int) (cs aZ aK:List PV) (x y:aj):ak MD (v6 T) k 80 3 ⟨[(0, .bs gk 0 3 n),(14, .pv (iv i)),(17, .pv (iv K))],[(gk,cs)],[],[]⟩ [.c true, .i 117 J, .i 120 J, .j 121 J, .j 125 K, .e 122 (.ag y.cells), .e 126 (.ag x.cells), .j 127 K, .s aZ, .j 128 J, .s aK, .e 126 (.ag x.cells), .e 122 (.ag y.cells), .j 127 K, .s aZ, .j 128 J, .s aK, .i 112 J]=
 some ((Xt.normal,St.mk [(0,AV.bs 1000000 0 3 n),(14,AV.pv (iv i)),(17,AV.pv (iv (↑J:Int)))] [(1000000,aK)] [] []),[],[decide ((↑K:Int)>i)=true,IntKind.i64.wrap ((↑K:Int) - (1:Int))=(↑J:Int),IntKind.i64.wrap ((↑K:Int) - (1:Int))=(↑J:Int),aG (↑J:Int) n J,aG (↑K:Int) n K,Ld MD.P 36 cs (0+J* 3) (PV.ag y.cells),Ld MD.P 36 cs (0+K* 3) (PV.ag x.cells),aG (↑K:Int) n K,0+K* 3+3≤cs.length,ck cs (0+K* 3) y.cells aZ,aG (↑J:Int) n J,0+J* 3+3≤aZ.length,ck aZ (0+J* 3) x.cells aK,Ld MD.P 36 cs (0+K* 3) (PV.ag x.cells),Ld MD.P 36 cs (0+J* 3) (PV.ag y.cells),aG (↑K:Int) n K,0+K* 3+3≤cs.length,ck cs (0+K* 3) y.cells aZ,aG (↑J:Int) n J,0+J* 3+3≤aZ.length,ck aZ (0+J* 3) x.cells aK,St.mk [(0,AV.bs 1000000 0 3 n),(14,AV.pv (iv i)),(17,AV.pv (iv (↑K:Int)))] [(1000000,aK)] [] []=St.mk [(0,AV.bs 1000000 0 3 n),(14,AV.pv (iv i)),(17,AV.pv (iv (↑K:Int)))] [(1000000,aK)] [] [],IntKind.i64.wrap ((↑K:Int) - (1:Int))=(↑J:Int)]):=by kernel_rfl
theorem Z6 (T:List MA→Option (MR×List PV)) (k n:Nat) (i j:Int) (cs:List PV):ak MD (v6 T) k 80 3 ⟨[(0, .bs gk 0 3 n),(14, .pv (iv i)),(17, .pv (iv j))],[(gk,cs)],[],[]⟩ [.c false]=
 some ((Xt.exit 6,St.mk [(0,AV.bs 1000000 0 3 n),(14,AV.pv (iv i)),(17,AV.pv (iv j)),(110,AV.pv (bv false))] [(1000000,cs)] [] []),[],[decide (j>i)=false]):=by kernel_rfl
theorem Z7 (T:List MA→Option (MR×List PV)) (k n c q:Nat) (a m b mid nn st r0 p s r I:Int) (cs:List PV) (x y:aj):ak MD (v6 T) k 80 4 ⟨[(0, .bs gk 0 3 n),(1, .pv (iv a)),(2, .pv (iv m)),(3, .pv (iv b)),(4, .pv aX),(18, .pv (iv mid)),(19, .pv (iv nn)),(20, .pv (iv st)),(21, .pv (iv r0)),(22, .pv (iv p))],[(gk,cs)],[],[]⟩ [.c true, .i 154 s, .i 155 s, .i 156 (c:Nat), .i 157 (c:Nat), .i 162 (q:Nat), .j 163 q, .e 164 (.ag x.cells), .j 167 c, .e 168 (.ag y.cells), .r (one (iv r)), .c false, .i 173 I]=
 some ((Xt.normal,St.mk [(0,AV.bs 1000000 0 3 n),(1,AV.pv (iv a)),(2,AV.pv (iv m)),(3,AV.pv (iv b)),(4,AV.pv (PV.fn 42 [PV.el [PV.fn 40 []]])),(18,AV.pv (iv mid)),(19,AV.pv (iv nn)),(20,AV.pv (iv I)),(21,AV.pv (iv r0)),(22,AV.pv (iv p))] [(1000000,cs)] [] []),[],[decide (st<r0)=true,IntKind.i64.wrap (st+r0)=s,IntKind.u64.wrap s=s,s.fdiv ((2:Int)^min (Int.toNat (1:Int)) IntKind.u64.bits)=(↑c:Int),false=false,IntKind.i64.wrap (↑c:Int)=(↑c:Int),IntKind.i64.wrap (p - (↑c:Int))=(↑q:Int),aG (↑q:Int) n q,Ld MD.P 36 cs (0+q* 3) (PV.ag x.cells),aG (↑c:Int) n c,Ld MD.P 36 cs (0+c* 3) (PV.ag y.cells),aa (v6 T) 42 [PV.ag x.cells,PV.ag y.cells,PV.el [PV.fn 40 []]] (RV.mk (iv r) none),decide (r<(0:Int))=false,IntKind.i64.wrap ((↑c:Int)+(1:Int))=I]):=by kernel_rfl
theorem Z8 (T:List MA→Option (MR×List PV)) (k n c q:Nat) (a m b mid nn st r0 p s r:Int) (cs:List PV) (x y:aj):ak MD (v6 T) k 80 4 ⟨[(0, .bs gk 0 3 n),(1, .pv (iv a)),(2, .pv (iv m)),(3, .pv (iv b)),(4, .pv aX),(18, .pv (iv mid)),(19, .pv (iv nn)),(20, .pv (iv st)),(21, .pv (iv r0)),(22, .pv (iv p))],[(gk,cs)],[],[]⟩ [.c true, .i 154 s, .i 155 s, .i 156 (c:Nat), .i 157 (c:Nat), .i 162 (q:Nat), .j 163 q, .e 164 (.ag x.cells), .j 167 c, .e 168 (.ag y.cells), .r (one (iv r)), .c true]=
 some ((Xt.normal,St.mk [(0,AV.bs 1000000 0 3 n),(1,AV.pv (iv a)),(2,AV.pv (iv m)),(3,AV.pv (iv b)),(4,AV.pv (PV.fn 42 [PV.el [PV.fn 40 []]])),(18,AV.pv (iv mid)),(19,AV.pv (iv nn)),(20,AV.pv (iv st)),(21,AV.pv (iv (↑c:Int))),(22,AV.pv (iv p))] [(1000000,cs)] [] []),[],[decide (st<r0)=true,IntKind.i64.wrap (st+r0)=s,IntKind.u64.wrap s=s,s.fdiv ((2:Int)^min (Int.toNat (1:Int)) IntKind.u64.bits)=(↑c:Int),false=false,IntKind.i64.wrap (↑c:Int)=(↑c:Int),IntKind.i64.wrap (p - (↑c:Int))=(↑q:Int),aG (↑q:Int) n q,Ld MD.P 36 cs (0+q* 3) (PV.ag x.cells),aG (↑c:Int) n c,Ld MD.P 36 cs (0+c* 3) (PV.ag y.cells),aa (v6 T) 42 [PV.ag x.cells,PV.ag y.cells,PV.el [PV.fn 40 []]] (RV.mk (iv r) none),decide (r<(0:Int))=true]):=by kernel_rfl
theorem Z9 (T:List MA→Option (MR×List PV)) (k n:Nat) (a m b mid nn st r0 p:Int) (cs:List PV):ak MD (v6 T) k 80 4 ⟨[(0, .bs gk 0 3 n),(1, .pv (iv a)),(2, .pv (iv m)),(3, .pv (iv b)),(4, .pv aX),(18, .pv (iv mid)),(19, .pv (iv nn)),(20, .pv (iv st)),(21, .pv (iv r0)),(22, .pv (iv p))],[(gk,cs)],[],[]⟩ [.c false]=
 some ((Xt.exit 8,St.mk [(0,AV.bs 1000000 0 3 n),(1,AV.pv (iv a)),(2,AV.pv (iv m)),(3,AV.pv (iv b)),(4,AV.pv (PV.fn 42 [PV.el [PV.fn 40 []]])),(18,AV.pv (iv mid)),(19,AV.pv (iv nn)),(20,AV.pv (iv st)),(21,AV.pv (iv r0)),(22,AV.pv (iv p)),(151,AV.pv (bv false))] [(1000000,cs)] [] []),[],[decide (st<r0)=false]):=by kernel_rfl
theorem zmN (T:List MA→Option (MR×List PV)) (k n:Nat) (a m b D s t:Int) (cs aZ:List PV):hO MD (v6 T) k 80 [.g cs 0 3 n, .p (iv a), .p (iv m), .p (iv b), .p aX] [.i 27 D, .c true, .l (.exit 0) ⟨[(0, .bs gk 0 3 n),(1, .pv (iv a)),(4, .pv aX),(10, .pv (iv s)),(11, .pv (iv s)),(33, .pv (bv false))],[(gk,cs)],[],[]⟩, .l (.exit 2) ⟨[(0, .bs gk 0 3 n),(10, .pv (iv s)),(13, .pv (iv t)),(58, .pv (bv false))],[(gk,aZ)],[],[]⟩]=
 some ((MR.pv (PV.an []),aZ),[aZ.all bS=true,aZ.length=cs.length,IntKind.i64.wrap (m - a)=D,(D==(1:Int))=true,aN MD (v6 T) k (80:Nat) (0:Nat) (St.mk [(0,AV.bs 1000000 0 3 n),(1,AV.pv (iv a)),(4,AV.pv (PV.fn 42 [PV.el [PV.fn 40 []]])),(10,AV.pv (iv m)),(11,AV.pv (iv b))] [(1000000,cs)] [] []) (Xt.exit 0) (St.mk [(0,AV.bs 1000000 0 3 n),(1,AV.pv (iv a)),(4,AV.pv (PV.fn 42 [PV.el [PV.fn 40 []]])),(10,AV.pv (iv s)),(11,AV.pv (iv s)),(33,AV.pv (bv false))] [(1000000,cs)] [] []),aN MD (v6 T) k (80:Nat) (1:Nat) (St.mk [(0,AV.bs 1000000 0 3 n),(10,AV.pv (iv s)),(13,AV.pv (iv a))] [(1000000,cs)] [] []) (Xt.exit 2) (St.mk [(0,AV.bs 1000000 0 3 n),(10,AV.pv (iv s)),(13,AV.pv (iv t)),(58,AV.pv (bv false))] [(1000000,aZ)] [] [])]):=by kernel_rfl
theorem zmO (T:List MA→Option (MR×List PV)) (k n:Nat) (a m b D E s t:Int) (cs aZ:List PV):hO MD (v6 T) k 80 [.g cs 0 3 n, .p (iv a), .p (iv m), .p (iv b), .p aX] [.i 27 D, .c false, .i 79 E, .c true, .l (.exit 4) ⟨[(0, .bs gk 0 3 n),(2, .pv (iv m)),(4, .pv aX),(14, .pv (iv s)),(15, .pv (iv s)),(85, .pv (bv false))],[(gk,cs)],[],[]⟩, .l (.exit 6) ⟨[(0, .bs gk 0 3 n),(14, .pv (iv s)),(17, .pv (iv t)),(110, .pv (bv false))],[(gk,aZ)],[],[]⟩]=
 some ((MR.pv (PV.an []),aZ),[aZ.all bS=true,aZ.length=cs.length,IntKind.i64.wrap (m - a)=D,(D==(1:Int))=false,IntKind.i64.wrap (b - m)=E,(E==(1:Int))=true,aN MD (v6 T) k (80:Nat) (2:Nat) (St.mk [(0,AV.bs 1000000 0 3 n),(2,AV.pv (iv m)),(4,AV.pv (PV.fn 42 [PV.el [PV.fn 40 []]])),(14,AV.pv (iv a)),(15,AV.pv (iv m))] [(1000000,cs)] [] []) (Xt.exit 4) (St.mk [(0,AV.bs 1000000 0 3 n),(2,AV.pv (iv m)),(4,AV.pv (PV.fn 42 [PV.el [PV.fn 40 []]])),(14,AV.pv (iv s)),(15,AV.pv (iv s)),(85,AV.pv (bv false))] [(1000000,cs)] [] []),aN MD (v6 T) k (80:Nat) (3:Nat) (St.mk [(0,AV.bs 1000000 0 3 n),(14,AV.pv (iv s)),(17,AV.pv (iv m))] [(1000000,cs)] [] []) (Xt.exit 6) (St.mk [(0,AV.bs 1000000 0 3 n),(14,AV.pv (iv s)),(17,AV.pv (iv t)),(110,AV.pv (bv false))] [(1000000,aZ)] [] [])]):=by kernel_rfl
theorem zmP (T:List MA→Option (MR×List PV)) (k n:Nat) (a m b D E s mid nn q p x:Int) (cs:List PV):iB T k (kR [cX (bX 0),cX (bX 1),cX (bX 2),cX (bX 3),cX (bX 4),cX (bX 5),cX (bX 6),cX (bX 7)]) (.eI [.g cs 0 3 n, .p (iv a), .p (iv m), .p (iv b), .p aX]) [.i 27 D, .c false, .i 79 E, .c false, .i 131 s, .i 132 s, .i 133 mid, .i 134 mid, .i 137 nn, .c true, .i 143 q, .i 148 p, .l (.exit 8) ⟨[(0, .bs gk 0 3 n),(1, .pv (iv a)),(2, .pv (iv m)),(3, .pv (iv b)),(4, .pv aX),(18, .pv (iv mid)),(19, .pv (iv nn)),(20, .pv (iv x)),(21, .pv (iv x)),(22, .pv (iv p)),(151, .pv (bv false))],[(gk,cs)],[],[]⟩]=
 some ((Xt.normal,St.mk [(0,AV.bs 1000000 0 3 n),(1,AV.pv (iv a)),(2,AV.pv (iv m)),(3,AV.pv (iv b)),(4,AV.pv (PV.fn 42 [PV.el [PV.fn 40 []]])),(18,AV.pv (iv mid)),(19,AV.pv (iv nn)),(20,AV.pv (iv x)),(21,AV.pv (iv x)),(22,AV.pv (iv p)),(151,AV.pv (bv false))] [(1000000,cs)] [] []),[],[IntKind.i64.wrap (m - a)=D,(D==(1:Int))=false,IntKind.i64.wrap (b - m)=E,(E==(1:Int))=false,IntKind.i64.wrap (a+b)=s,IntKind.u64.wrap s=s,s.fdiv ((2:Int)^min (Int.toNat (1:Int)) IntKind.u64.bits)=mid,false=false,IntKind.i64.wrap mid=mid,IntKind.i64.wrap (mid+m)=nn,decide (m>mid)=true,IntKind.i64.wrap (nn - b)=q,IntKind.i64.wrap (nn - (1:Int))=p,aN MD (v6 T) k (80:Nat) (4:Nat) (St.mk [(0,AV.bs 1000000 0 3 n),(1,AV.pv (iv a)),(2,AV.pv (iv m)),(3,AV.pv (iv b)),(4,AV.pv (PV.fn 42 [PV.el [PV.fn 40 []]])),(18,AV.pv (iv mid)),(19,AV.pv (iv nn)),(20,AV.pv (iv q)),(21,AV.pv (iv mid)),(22,AV.pv (iv p))] [(1000000,cs)] [] []) (Xt.exit 8) (St.mk [(0,AV.bs 1000000 0 3 n),(1,AV.pv (iv a)),(2,AV.pv (iv m)),(3,AV.pv (iv b)),(4,AV.pv (PV.fn 42 [PV.el [PV.fn 40 []]])),(18,AV.pv (iv mid)),(19,AV.pv (iv nn)),(20,AV.pv (iv x)),(21,AV.pv (iv x)),(22,AV.pv (iv p)),(151,AV.pv (bv false))] [(1000000,cs)] [] [])]):=by kernel_rfl
theorem zmQ (T:List MA→Option (MR×List PV)) (k n:Nat) (a m b D E s mid nn p x:Int) (cs:List PV):iB T k (kR [cX (bX 0),cX (bX 1),cX (bX 2),cX (bX 3),cX (bX 4),cX (bX 5),cX (bX 6),cX (bX 7)]) (.eI [.g cs 0 3 n, .p (iv a), .p (iv m), .p (iv b), .p aX]) [.i 27 D, .c false, .i 79 E, .c false, .i 131 s, .i 132 s, .i 133 mid, .i 134 mid, .i 137 nn, .c false, .i 148 p, .l (.exit 8) ⟨[(0, .bs gk 0 3 n),(1, .pv (iv a)),(2, .pv (iv m)),(3, .pv (iv b)),(4, .pv aX),(18, .pv (iv mid)),(19, .pv (iv nn)),(20, .pv (iv x)),(21, .pv (iv x)),(22, .pv (iv p)),(151, .pv (bv false))],[(gk,cs)],[],[]⟩]=
 some ((Xt.normal,St.mk [(0,AV.bs 1000000 0 3 n),(1,AV.pv (iv a)),(2,AV.pv (iv m)),(3,AV.pv (iv b)),(4,AV.pv (PV.fn 42 [PV.el [PV.fn 40 []]])),(18,AV.pv (iv mid)),(19,AV.pv (iv nn)),(20,AV.pv (iv x)),(21,AV.pv (iv x)),(22,AV.pv (iv p)),(151,AV.pv (bv false))] [(1000000,cs)] [] []),[],[IntKind.i64.wrap (m - a)=D,(D==(1:Int))=false,IntKind.i64.wrap (b - m)=E,(E==(1:Int))=false,IntKind.i64.wrap (a+b)=s,IntKind.u64.wrap s=s,s.fdiv ((2:Int)^min (Int.toNat (1:Int)) IntKind.u64.bits)=mid,false=false,IntKind.i64.wrap mid=mid,IntKind.i64.wrap (mid+m)=nn,decide (m>mid)=false,IntKind.i64.wrap (nn - (1:Int))=p,aN MD (v6 T) k (80:Nat) (4:Nat) (St.mk [(0,AV.bs 1000000 0 3 n),(1,AV.pv (iv a)),(2,AV.pv (iv m)),(3,AV.pv (iv b)),(4,AV.pv (PV.fn 42 [PV.el [PV.fn 40 []]])),(18,AV.pv (iv mid)),(19,AV.pv (iv nn)),(20,AV.pv (iv a)),(21,AV.pv (iv m)),(22,AV.pv (iv p))] [(1000000,cs)] [] []) (Xt.exit 8) (St.mk [(0,AV.bs 1000000 0 3 n),(1,AV.pv (iv a)),(2,AV.pv (iv m)),(3,AV.pv (iv b)),(4,AV.pv (PV.fn 42 [PV.el [PV.fn 40 []]])),(18,AV.pv (iv mid)),(19,AV.pv (iv nn)),(20,AV.pv (iv x)),(21,AV.pv (iv x)),(22,AV.pv (iv p)),(151,AV.pv (bv false))] [(1000000,cs)] [] [])]):=by kernel_rfl
theorem zmR (T:List MA→Option (MR×List PV)) (k n:Nat) (a m b mid nn x p e:Int) (cs aZ:List PV):iB T k (kR [cX (bX 8),cX (bX 9)]) ⟨[(0, .bs gk 0 3 n),(1, .pv (iv a)),(2, .pv (iv m)),(3, .pv (iv b)),(4, .pv aX),(18, .pv (iv mid)),(19, .pv (iv nn)),(20, .pv (iv x)),(21, .pv (iv x)),(22, .pv (iv p)),(151, .pv (bv false))],[(gk,cs)],[],[]⟩ [.i 177 e, .c true, .c true, .m (.pv (.an [])) aZ]=
 some ((Xt.normal,St.mk [(0,AV.bs 1000000 0 3 n),(1,AV.pv (iv a)),(3,AV.pv (iv b)),(4,AV.pv (PV.fn 42 [PV.el [PV.fn 40 []]])),(18,AV.pv (iv mid)),(20,AV.pv (iv x)),(24,AV.pv (iv e))] [(1000000,aZ)] [] []),[],[IntKind.i64.wrap (nn - x)=e,decide (x<m)=true,decide (m<e)=true,cC (v6 T) 91 [MA.g cs 0 3 n,MA.p (iv x),MA.p (iv m),MA.p (iv e),MA.p (PV.fn 42 [PV.el [PV.fn 40 []]])] (MR.pv (PV.an [])) aZ]):=by kernel_rfl
theorem zmS (T:List MA→Option (MR×List PV)) (k n:Nat) (a m b mid nn x p e:Int) (cs:List PV):iB T k (kR [cX (bX 8),cX (bX 9)]) ⟨[(0, .bs gk 0 3 n),(1, .pv (iv a)),(2, .pv (iv m)),(3, .pv (iv b)),(4, .pv aX),(18, .pv (iv mid)),(19, .pv (iv nn)),(20, .pv (iv x)),(21, .pv (iv x)),(22, .pv (iv p)),(151, .pv (bv false))],[(gk,cs)],[],[]⟩ [.i 177 e, .c false]=
 some ((Xt.normal,St.mk [(0,AV.bs 1000000 0 3 n),(1,AV.pv (iv a)),(2,AV.pv (iv m)),(3,AV.pv (iv b)),(4,AV.pv (PV.fn 42 [PV.el [PV.fn 40 []]])),(18,AV.pv (iv mid)),(20,AV.pv (iv x)),(24,AV.pv (iv e)),(185,AV.pv (bv false))] [(1000000,cs)] [] []),[],[IntKind.i64.wrap (nn - x)=e,decide (x<m)=false]):=by kernel_rfl
theorem zmT (T:List MA→Option (MR×List PV)) (k n:Nat) (a m b mid nn x p e:Int) (cs:List PV):iB T k (kR [cX (bX 8),cX (bX 9)]) ⟨[(0, .bs gk 0 3 n),(1, .pv (iv a)),(2, .pv (iv m)),(3, .pv (iv b)),(4, .pv aX),(18, .pv (iv mid)),(19, .pv (iv nn)),(20, .pv (iv x)),(21, .pv (iv x)),(22, .pv (iv p)),(151, .pv (bv false))],[(gk,cs)],[],[]⟩ [.i 177 e, .c true, .c false]=
 some ((Xt.normal,St.mk [(0,AV.bs 1000000 0 3 n),(1,AV.pv (iv a)),(2,AV.pv (iv m)),(3,AV.pv (iv b)),(4,AV.pv (PV.fn 42 [PV.el [PV.fn 40 []]])),(18,AV.pv (iv mid)),(20,AV.pv (iv x)),(24,AV.pv (iv e)),(185,AV.pv (bv false))] [(1000000,cs)] [] []),[],[IntKind.i64.wrap (nn - x)=e,decide (x<m)=true,decide (m<e)=false]):=by kernel_rfl
theorem zmU (T:List MA→Option (MR×List PV)) (k n:Nat) (a b mid x e:Int) (cs aZ:List PV):iB T k (kR [cX (bX 10)]) ⟨[(0, .bs gk 0 3 n),(1, .pv (iv a)),(3, .pv (iv b)),(4, .pv aX),(18, .pv (iv mid)),(20, .pv (iv x)),(24, .pv (iv e))],[(gk,cs)],[],[]⟩ [.c true, .c true, .m (.pv (.an [])) aZ]=
 some ((Xt.normal,St.mk [(0,AV.bs 1000000 0 3 n),(3,AV.pv (iv b)),(4,AV.pv (PV.fn 42 [PV.el [PV.fn 40 []]])),(18,AV.pv (iv mid)),(24,AV.pv (iv e))] [(1000000,aZ)] [] []),[],[decide (a<x)=true,decide (x<mid)=true,cC (v6 T) 80 [MA.g cs 0 3 n,MA.p (iv a),MA.p (iv x),MA.p (iv mid),MA.p (PV.fn 42 [PV.el [PV.fn 40 []]])] (MR.pv (PV.an [])) aZ]):=by kernel_rfl
theorem zmV (T:List MA→Option (MR×List PV)) (k n:Nat) (a b mid x e:Int) (cs:List PV):iB T k (kR [cX (bX 10)]) ⟨[(0, .bs gk 0 3 n),(1, .pv (iv a)),(3, .pv (iv b)),(4, .pv aX),(18, .pv (iv mid)),(20, .pv (iv x)),(24, .pv (iv e))],[(gk,cs)],[],[]⟩ [.c false]=
 some ((Xt.normal,St.mk [(0,AV.bs 1000000 0 3 n),(1,AV.pv (iv a)),(3,AV.pv (iv b)),(4,AV.pv (PV.fn 42 [PV.el [PV.fn 40 []]])),(18,AV.pv (iv mid)),(20,AV.pv (iv x)),(24,AV.pv (iv e)),(199,AV.pv (bv false))] [(1000000,cs)] [] []),[],[decide (a<x)=false]):=by kernel_rfl
theorem zmW (T:List MA→Option (MR×List PV)) (k n:Nat) (a b mid x e:Int) (cs:List PV):iB T k (kR [cX (bX 10)]) ⟨[(0, .bs gk 0 3 n),(1, .pv (iv a)),(3, .pv (iv b)),(4, .pv aX),(18, .pv (iv mid)),(20, .pv (iv x)),(24, .pv (iv e))],[(gk,cs)],[],[]⟩ [.c true, .c false]=
 some ((Xt.normal,St.mk [(0,AV.bs 1000000 0 3 n),(1,AV.pv (iv a)),(3,AV.pv (iv b)),(4,AV.pv (PV.fn 42 [PV.el [PV.fn 40 []]])),(18,AV.pv (iv mid)),(20,AV.pv (iv x)),(24,AV.pv (iv e)),(199,AV.pv (bv false))] [(1000000,cs)] [] []),[],[decide (a<x)=true,decide (x<mid)=false]):=by kernel_rfl
theorem zmX (T:List MA→Option (MR×List PV)) (k n:Nat) (a m b mid x e:Int) (cs aZ:List PV):iB T k (kR [cX (bX 10)]) ⟨[(0, .bs gk 0 3 n),(1, .pv (iv a)),(2, .pv (iv m)),(3, .pv (iv b)),(4, .pv aX),(18, .pv (iv mid)),(20, .pv (iv x)),(24, .pv (iv e)),(185, .pv (bv false))],[(gk,cs)],[],[]⟩ [.c true, .c true, .m (.pv (.an [])) aZ]=
 some ((Xt.normal,St.mk [(0,AV.bs 1000000 0 3 n),(3,AV.pv (iv b)),(4,AV.pv (PV.fn 42 [PV.el [PV.fn 40 []]])),(18,AV.pv (iv mid)),(24,AV.pv (iv e))] [(1000000,aZ)] [] []),[],[decide (a<x)=true,decide (x<mid)=true,cC (v6 T) 80 [MA.g cs 0 3 n,MA.p (iv a),MA.p (iv x),MA.p (iv mid),MA.p (PV.fn 42 [PV.el [PV.fn 40 []]])] (MR.pv (PV.an [])) aZ]):=by kernel_rfl
theorem zmY (T:List MA→Option (MR×List PV)) (k n:Nat) (a m b mid x e:Int) (cs:List PV):iB T k (kR [cX (bX 10)]) ⟨[(0, .bs gk 0 3 n),(1, .pv (iv a)),(2, .pv (iv m)),(3, .pv (iv b)),(4, .pv aX),(18, .pv (iv mid)),(20, .pv (iv x)),(24, .pv (iv e)),(185, .pv (bv false))],[(gk,cs)],[],[]⟩ [.c false]=
 some ((Xt.normal,St.mk [(0,AV.bs 1000000 0 3 n),(1,AV.pv (iv a)),(3,AV.pv (iv b)),(4,AV.pv (PV.fn 42 [PV.el [PV.fn 40 []]])),(18,AV.pv (iv mid)),(20,AV.pv (iv x)),(24,AV.pv (iv e)),(199,AV.pv (bv false))] [(1000000,cs)] [] []),[],[decide (a<x)=false]):=by kernel_rfl
theorem zmZ (T:List MA→Option (MR×List PV)) (k n:Nat) (a m b mid x e:Int) (cs:List PV):iB T k (kR [cX (bX 10)]) ⟨[(0, .bs gk 0 3 n),(1, .pv (iv a)),(2, .pv (iv m)),(3, .pv (iv b)),(4, .pv aX),(18, .pv (iv mid)),(20, .pv (iv x)),(24, .pv (iv e)),(185, .pv (bv false))],[(gk,cs)],[],[]⟩ [.c true, .c false]=
 some ((Xt.normal,St.mk [(0,AV.bs 1000000 0 3 n),(1,AV.pv (iv a)),(3,AV.pv (iv b)),(4,AV.pv (PV.fn 42 [PV.el [PV.fn 40 []]])),(18,AV.pv (iv mid)),(20,AV.pv (iv x)),(24,AV.pv (iv e)),(199,AV.pv (bv false))] [(1000000,cs)] [] []),[],[decide (a<x)=true,decide (x<mid)=false]):=by kernel_rfl
theorem znU (T:List MA→Option (MR×List PV)) (k n:Nat) (b mid e:Int) (cs aZ:List PV):iB T k (bX 11) ⟨[(0, .bs gk 0 3 n),(3, .pv (iv b)),(4, .pv aX),(18, .pv (iv mid)),(24, .pv (iv e))],[(gk,cs)],[],[]⟩ [.c true, .c true, .m (.pv (.an [])) aZ]=
 some ((Xt.normal,St.mk [] [(1000000,aZ)] [] []),[],[decide (mid<e)=true,decide (e<b)=true,cC (v6 T) 80 [MA.g cs 0 3 n,MA.p (iv mid),MA.p (iv e),MA.p (iv b),MA.p (PV.fn 42 [PV.el [PV.fn 40 []]])] (MR.pv (PV.an [])) aZ]):=by kernel_rfl
theorem znV (T:List MA→Option (MR×List PV)) (k n:Nat) (b mid e:Int) (cs:List PV):iB T k (bX 11) ⟨[(0, .bs gk 0 3 n),(3, .pv (iv b)),(4, .pv aX),(18, .pv (iv mid)),(24, .pv (iv e))],[(gk,cs)],[],[]⟩ [.c false]=
 some ((Xt.normal,St.mk [(0,AV.bs 1000000 0 3 n),(3,AV.pv (iv b)),(4,AV.pv (PV.fn 42 [PV.el [PV.fn 40 []]])),(18,AV.pv (iv mid)),(24,AV.pv (iv e)),(213,AV.pv (bv false))] [(1000000,cs)] [] []),[],[decide (mid<e)=false]):=by kernel_rfl
theorem znW (T:List MA→Option (MR×List PV)) (k n:Nat) (b mid e:Int) (cs:List PV):iB T k (bX 11) ⟨[(0, .bs gk 0 3 n),(3, .pv (iv b)),(4, .pv aX),(18, .pv (iv mid)),(24, .pv (iv e))],[(gk,cs)],[],[]⟩ [.c true, .c false]=
 some ((Xt.normal,St.mk [(0,AV.bs 1000000 0 3 n),(3,AV.pv (iv b)),(4,AV.pv (PV.fn 42 [PV.el [PV.fn 40 []]])),(18,AV.pv (iv mid)),(24,AV.pv (iv e)),(213,AV.pv (bv false))] [(1000000,cs)] [] []),[],[decide (mid<e)=true,decide (e<b)=false]):=by kernel_rfl
theorem znX (T:List MA→Option (MR×List PV)) (k n:Nat) (a b mid x e:Int) (cs aZ:List PV):iB T k (bX 11) ⟨[(0, .bs gk 0 3 n),(1, .pv (iv a)),(3, .pv (iv b)),(4, .pv aX),(18, .pv (iv mid)),(20, .pv (iv x)),(24, .pv (iv e)),(199, .pv (bv false))],[(gk,cs)],[],[]⟩ [.c true, .c true, .m (.pv (.an [])) aZ]=
 some ((Xt.normal,St.mk [] [(1000000,aZ)] [] []),[],[decide (mid<e)=true,decide (e<b)=true,cC (v6 T) 80 [MA.g cs 0 3 n,MA.p (iv mid),MA.p (iv e),MA.p (iv b),MA.p (PV.fn 42 [PV.el [PV.fn 40 []]])] (MR.pv (PV.an [])) aZ]):=by kernel_rfl
theorem znY (T:List MA→Option (MR×List PV)) (k n:Nat) (a b mid x e:Int) (cs:List PV):iB T k (bX 11) ⟨[(0, .bs gk 0 3 n),(1, .pv (iv a)),(3, .pv (iv b)),(4, .pv aX),(18, .pv (iv mid)),(20, .pv (iv x)),(24, .pv (iv e)),(199, .pv (bv false))],[(gk,cs)],[],[]⟩ [.c false]=
 some ((Xt.normal,St.mk [(0,AV.bs 1000000 0 3 n),(3,AV.pv (iv b)),(4,AV.pv (PV.fn 42 [PV.el [PV.fn 40 []]])),(18,AV.pv (iv mid)),(24,AV.pv (iv e)),(213,AV.pv (bv false))] [(1000000,cs)] [] []),[],[decide (mid<e)=false]):=by kernel_rfl
theorem znZ (T:List MA→Option (MR×List PV)) (k n:Nat) (a b mid x e:Int) (cs:List PV):iB T k (bX 11) ⟨[(0, .bs gk 0 3 n),(1, .pv (iv a)),(3, .pv (iv b)),(4, .pv aX),(18, .pv (iv mid)),(20, .pv (iv x)),(24, .pv (iv e)),(199, .pv (bv false))],[(gk,cs)],[],[]⟩ [.c true, .c false]=
 some ((Xt.normal,St.mk [(0,AV.bs 1000000 0 3 n),(3,AV.pv (iv b)),(4,AV.pv (PV.fn 42 [PV.el [PV.fn 40 []]])),(18,AV.pv (iv mid)),(24,AV.pv (iv e)),(213,AV.pv (bv false))] [(1000000,cs)] [] []),[],[decide (mid<e)=true,decide (e<b)=false]):=by kernel_rfl
end Go.Proofs.YtibbgjafjhcemaaDoor.Cul
namespace Go.Proofs.YtibbgjafjhcemaaDoor.Cul
open Go Go.RowKit
theorem Nj (x y:aj):cE x - cE y<0↔(kS x=false∧kS y=true):=by
 rw [pg,pg]
 cases kS x<;>cases kS y<;>simp
theorem nD {i j:Nat} (h:i+j<2^62):IntKind.i64.wrap ((i:Int)+(j:Int))=((i+j:Nat):Int)∧IntKind.u64.wrap ((i+j:Nat):Int)=((i+j:Nat):Int)∧((i+j:Nat):Int).fdiv ((2:Int)^min (Int.toNat (1:Int)) IntKind.u64.bits)=(((i+j) / 2:Nat):Int)∧IntKind.i64.wrap (((i+j) / 2:Nat):Int)=(((i+j) / 2:Nat):Int):=by
 refine ⟨bu (by omega) (by omega) (by omega),bE rfl (by omega), ?_,wrap64 (by omega) (by omega)⟩
 have e:((2:Int)^min (Int.toNat (1:Int)) IntKind.u64.bits)=((2:Nat):Int):=by decide
 rw [e,kg]
theorem oL {f:St→Option (Xt×St)} {S:Nat→Nat→St} {E:Nat→St} {x:Xt} (hx:x≠ .normal) (t:Nat→Prop) {i0 j0:Nat}
  (h1:∀i j,i0≤i→i<j→j≤j0→t ((i+j) / 2)→f (S i j)=some (.normal,S ((i+j) / 2+1) j))
  (h2:∀i j,i0≤i→i<j→j≤j0→¬t ((i+j) / 2)→f (S i j)=some (.normal,S i ((i+j) / 2)))
  (h3:∀i,f (S i i)=some (x,E i)):
  ∀(n i j:Nat),i0≤i→i≤j→j≤j0→j - i≤n→(i=i0∨t (i - 1))→(j=j0∨¬t j)→∃s,i0≤s∧s≤j0∧(s=i0∨t (s - 1))∧(s=j0∨¬t s)∧aR f (n+1) (S i j)=some (x,E s)
 |0,i,j,a1,a2,a3,a4,b1,b2=>by
  obtain rfl:i=j:=by omega
  exact ⟨i,a1,a3,b1,b2,aF (h3 i) hx⟩
 |n+1,i,j,a1,a2,a3,a4,b1,b2=>by
  rcases Nat.eq_or_lt_of_le a2 with rfl|h
  · exact ⟨i,a1,a3,b1,b2,aF (h3 i) hx⟩
  · by_cases ht:t ((i+j) / 2)
    · obtain ⟨s,c1,c2,c3,c4,c5⟩:=oL hx t h1 h2 h3 n ((i+j) / 2+1) j (by omega) (by omega) a3 (by omega) (.inr (by simpa using ht)) b2
      exact ⟨s,c1,c2,c3,c4,aW (h1 i j a1 h a3 ht) c5⟩
    · obtain ⟨s,c1,c2,c3,c4,c5⟩:=oL hx t h1 h2 h3 n i ((i+j) / 2) a1 (by omega) (by omega) (by omega) b1 (.inr ht)
      exact ⟨s,c1,c2,c3,c4,aW (h2 i j a1 h a3 ht) c5⟩
def jF (l:List aj) (i j:Nat):Prop:=∃x y,l[i]? =some x∧l[j]? =some y∧kS x=false∧kS y=true
theorem An {l:List aj} {i j:Nat} (h:jF l i j):∃x y,l[i]? =some x∧l[j]? =some y∧decide (cE x - cE y<0)=true:=by
 obtain ⟨x,y,h1,h2,h3⟩:=h
 exact ⟨x,y,h1,h2,decide_eq_true ((Nj x y).2 h3)⟩
theorem Am {l:List aj} {i j:Nat} (hi:i<l.length) (hj:j<l.length) (h:¬jF l i j):∃x y,l[i]? =some x∧l[j]? =some y∧decide (cE x - cE y<0)=false:=by
 refine ⟨l[i],l[j],List.getElem?_eq_getElem hi,List.getElem?_eq_getElem hj,decide_eq_false fun c=>h ⟨l[i],l[j],List.getElem?_eq_getElem hi,List.getElem?_eq_getElem hj,(Nj _ _).1 c⟩⟩
section
variable {T:List MA→Option (MR×List PV)} {k:Nat}
abbrev Rt (n:Nat) (a i j:Nat) (cs:List PV):St:=⟨[(0, .bs gk 0 3 n),(1, .pv (iv a)),(4, .pv aX),(10, .pv (iv i)),(11, .pv (iv j))],[(gk,cs)],[],[]⟩
abbrev Rs (n:Nat) (a i:Nat) (cs:List PV):St:=⟨[(0, .bs gk 0 3 n),(1, .pv (iv a)),(4, .pv aX),(10, .pv (iv i)),(11, .pv (iv i)),(33, .pv (bv false))],[(gk,cs)],[],[]⟩
theorem La {l:List aj} {a m b:Nat} (ha:a<l.length) (hm:m≤b) (hb:b≤l.length) (hs:l.length<2^60):
  ∃s,m≤s∧s≤b∧(s=m∨jF l (s - 1) a)∧(s=b∨¬jF l s a)∧aR (aI MD (v6 T) k 80 0) (b - m+1) (Rt l.length a m b (aq l))=some (.exit 0,Rs l.length a s (aq l)):=by
 refine oL (S:=fun i j=>Rt l.length a i j (aq l)) (E:=fun i=>Rs l.length a i (aq l)) (by simp) (fun h=>jF l h a) ?_ ?_ ?_ (b - m) m b (Nat.le_refl _) hm (Nat.le_refl _) (Nat.le_refl _) (.inl rfl) (.inl rfl)
 · intro i j h1 h2 h3 ht
   obtain ⟨x,y,gx,gy,hr⟩:=An ht
   obtain ⟨m1,m2,m3,m5⟩:=nD (i:=i) (j:=j) (by omega)
   exact af (ZX T k l.length i j ((i+j) / 2) a ((i+j) / 2+1:Nat) 0 (i+j:Nat) (cE x - cE y) (aq l) x y)
    ⟨decide_eq_true (by omega),m1,m2,m3,rfl,m5,⟨rfl,by omega⟩,fN gx,⟨rfl,by omega⟩,fN gy,jP x y,hr,bu (by omega) (by omega) (by omega),trivial⟩
 · intro i j h1 h2 h3 ht
   obtain ⟨x,y,gx,gy,hr⟩:=Am (by omega) ha ht
   obtain ⟨m1,m2,m3,m5⟩:=nD (i:=i) (j:=j) (by omega)
   exact af (ZY T k l.length i j ((i+j) / 2) a 0 0 (i+j:Nat) (cE x - cE y) (aq l) x y)
    ⟨decide_eq_true (by omega),m1,m2,m3,rfl,m5,⟨rfl,by omega⟩,fN gx,⟨rfl,by omega⟩,fN gy,jP x y,hr,trivial⟩
 · intro i
   exact af (ZZ T k l.length a i i (aq l)) ⟨decide_eq_false (by omega),trivial⟩
abbrev Rv (n:Nat) (m i j:Nat) (cs:List PV):St:=⟨[(0, .bs gk 0 3 n),(2, .pv (iv m)),(4, .pv aX),(14, .pv (iv i)),(15, .pv (iv j))],[(gk,cs)],[],[]⟩
abbrev Ru (n:Nat) (m i:Nat) (cs:List PV):St:=⟨[(0, .bs gk 0 3 n),(2, .pv (iv m)),(4, .pv aX),(14, .pv (iv i)),(15, .pv (iv i)),(85, .pv (bv false))],[(gk,cs)],[],[]⟩
theorem Lb {l:List aj} {a m:Nat} (ha:a≤m) (hm:m<l.length) (hs:l.length<2^60):
  ∃s,a≤s∧s≤m∧(s=a∨¬jF l m (s - 1))∧(s=m∨¬¬jF l m s)∧aR (aI MD (v6 T) k 80 2) (m - a+1) (Rv l.length m a m (aq l))=some (.exit 4,Ru l.length m s (aq l)):=by
 refine oL (S:=fun i j=>Rv l.length m i j (aq l)) (E:=fun i=>Ru l.length m i (aq l)) (by simp) (fun h=>¬jF l m h) ?_ ?_ ?_ (m - a) a m (Nat.le_refl _) ha (Nat.le_refl _) (Nat.le_refl _) (.inl rfl) (.inl rfl)
 · intro i j h1 h2 h3 ht
   obtain ⟨x,y,gx,gy,hr⟩:=Am hm (by omega) ht
   obtain ⟨m1,m2,m3,m5⟩:=nD (i:=i) (j:=j) (by omega)
   exact af (Z2 T k l.length i j ((i+j) / 2) m ((i+j) / 2+1:Nat) (i+j:Nat) (cE x - cE y) (aq l) x y)
    ⟨decide_eq_true (by omega),m1,m2,m3,rfl,m5,⟨rfl,by omega⟩,fN gx,⟨rfl,by omega⟩,fN gy,jP x y,hr,bu (by omega) (by omega) (by omega),trivial⟩
 · intro i j h1 h2 h3 ht
   obtain ⟨x,y,gx,gy,hr⟩:=An (Classical.not_not.1 ht)
   obtain ⟨m1,m2,m3,m5⟩:=nD (i:=i) (j:=j) (by omega)
   exact af (Z3 T k l.length i j ((i+j) / 2) m (i+j:Nat) (cE x - cE y) (aq l) x y)
    ⟨decide_eq_true (by omega),m1,m2,m3,rfl,m5,⟨rfl,by omega⟩,fN gx,⟨rfl,by omega⟩,fN gy,jP x y,hr,trivial⟩
 · intro i
   exact af (Z4 T k l.length m i i (aq l)) ⟨decide_eq_false (by omega),trivial⟩
abbrev Rw (n:Nat) (a m b mid nn p:Int) (i j:Nat) (cs:List PV):St:=⟨[(0, .bs gk 0 3 n),(1, .pv (iv a)),(2, .pv (iv m)),(3, .pv (iv b)),(4, .pv aX),(18, .pv (iv mid)),(19, .pv (iv nn)),(20, .pv (iv i)),(21, .pv (iv j)),(22, .pv (iv p))],[(gk,cs)],[],[]⟩
abbrev JZ (n:Nat) (a m b mid nn p:Int) (i:Nat) (cs:List PV):St:=⟨[(0, .bs gk 0 3 n),(1, .pv (iv a)),(2, .pv (iv m)),(3, .pv (iv b)),(4, .pv aX),(18, .pv (iv mid)),(19, .pv (iv nn)),(20, .pv (iv i)),(21, .pv (iv i)),(22, .pv (iv p)),(151, .pv (bv false))],[(gk,cs)],[],[]⟩
theorem C5 {l:List aj} {a m b mid nn:Int} {p i0 j0:Nat} (h0:i0≤j0) (hj:j0≤l.length) (hp:j0≤p+1) (Jd:p<l.length+i0) (hs:l.length<2^60):
  ∃s,i0≤s∧s≤j0∧(s=i0∨¬jF l (p - (s - 1)) (s - 1))∧(s=j0∨¬¬jF l (p - s) s)∧aR (aI MD (v6 T) k 80 4) (j0 - i0+1) (Rw l.length a m b mid nn p i0 j0 (aq l))=some (.exit 8,JZ l.length a m b mid nn p s (aq l)):=by
 refine oL (S:=fun i j=>Rw l.length a m b mid nn p i j (aq l)) (E:=fun i=>JZ l.length a m b mid nn p i (aq l)) (by simp) (fun h=>¬jF l (p - h) h) ?_ ?_ ?_ (j0 - i0) i0 j0 (Nat.le_refl _) h0 (Nat.le_refl _) (Nat.le_refl _) (.inl rfl) (.inl rfl)
 · intro i j h1 h2 h3 ht
   obtain ⟨x,y,gx,gy,hr⟩:=Am (by omega) (by omega) ht
   obtain ⟨m1,m2,m3,m5⟩:=nD (i:=i) (j:=j) (by omega)
   exact af (Z7 T k l.length ((i+j) / 2) (p - (i+j) / 2) a m b mid nn i j p (i+j:Nat) (cE x - cE y) ((i+j) / 2+1:Nat) (aq l) x y)
    ⟨decide_eq_true (by omega),m1,m2,m3,rfl,m5,bu (by omega) (by omega) (by omega),⟨rfl,by omega⟩,fN gx,⟨rfl,by omega⟩,fN gy,jP x y,hr,bu (by omega) (by omega) (by omega),trivial⟩
 · intro i j h1 h2 h3 ht
   obtain ⟨x,y,gx,gy,hr⟩:=An (Classical.not_not.1 ht)
   obtain ⟨m1,m2,m3,m5⟩:=nD (i:=i) (j:=j) (by omega)
   exact af (Z8 T k l.length ((i+j) / 2) (p - (i+j) / 2) a m b mid nn i j p (i+j:Nat) (cE x - cE y) (aq l) x y)
    ⟨decide_eq_true (by omega),m1,m2,m3,rfl,m5,bu (by omega) (by omega) (by omega),⟨rfl,by omega⟩,fN gx,⟨rfl,by omega⟩,fN gy,jP x y,hr,trivial⟩
 · intro i
   exact af (Z9 T k l.length a m b mid nn i i p (aq l)) ⟨decide_eq_false (by omega),trivial⟩
abbrev ZJ (n:Nat) (i j:Nat) (cs:List PV):St:=⟨[(0, .bs gk 0 3 n),(10, .pv (iv i)),(13, .pv (iv j))],[(gk,cs)],[],[]⟩
abbrev ZI (n:Nat) (i j:Nat) (cs:List PV):St:=⟨[(0, .bs gk 0 3 n),(10, .pv (iv i)),(13, .pv (iv j)),(58, .pv (bv false))],[(gk,cs)],[],[]⟩
theorem C3 {x:aj} {S:List aj} {i:Nat}:∀(Y P:List aj),(i=P.length+Y.length+1∨(Y=[]∧i=P.length))→(P++x::(Y++S)).length<2^60→
  aR (aI MD (v6 T) k 80 1) (Y.length+1) (ZJ (P++x::(Y++S)).length i P.length (aq (P++x::(Y++S))))=some (.exit 2,ZI (P++x::(Y++S)).length i (P.length+Y.length) (aq (P++(Y++x::S))))
 |[],P,hi,hs=>by
  simp only [List.nil_append,List.length_append,List.length_cons,List.length_nil] at hs hi ⊢
  refine aF ?_ (by simp)
  exact af (Z1 T k _ i P.length ((i:Int) - 1) _) ⟨wrap64 (by omega) (by omega),decide_eq_false (by omega),trivial⟩
 |y::Y,P,hi,hs=>by
  have hi:i=P.length+(Y.length+1)+1:=by simpa using hi
  have gx:(P++x::((y::Y)++S))[P.length]? =some x:=dA _ _ _
  have e1:P++x::((y::Y)++S)=(P++[x])++y::(Y++S):=by simp
  have gy:(P++x::((y::Y)++S))[P.length+1]? =some y:=by
   rw [e1,show P.length+1=(P++[x]).length by simp];exact dA _ _ _
  have h1:P.length+1<(P++x::((y::Y)++S)).length:=(List.getElem?_eq_some_iff.1 gy).1
  have h0:P.length<(P++x::((y::Y)++S)).length:=by omega
  obtain ⟨p1,p2⟩:=mh mA y h0
  obtain ⟨q1,q2⟩:=mh mA (l:=(P++x::((y::Y)++S)).set P.length y) x (i:=P.length+1) (by simp)
  have L1:=fN gx
  have L2:=fN gy
  have w:IntKind.i64.wrap ((P.length:Int)+1)=((P.length+1:Nat):Int):=bu (by omega) (by omega) (by omega)
  have w2:IntKind.i64.wrap ((i:Int) - 1)=(i:Int) - 1:=by
   simp only [List.length_append,List.length_cons] at hs
   exact wrap64 (by omega) (by omega)
  have r:=af (Z0 T k (P++x::((y::Y)++S)).length P.length (P.length+1) i ((i:Int) - 1) _ _ _ x y)
   ⟨w2,decide_eq_true (by omega),w,w,⟨rfl,h1⟩,⟨rfl,h0⟩,L2,L1,⟨rfl,h0⟩,p1,p2,⟨rfl,h1⟩,q1,q2,L1,L2,⟨rfl,h0⟩,p1,p2,⟨rfl,h1⟩,q1,q2,rfl,w,trivial⟩
  have e3:((P++x::((y::Y)++S)).set P.length y).set (P.length+1) x=(P++[y])++x::(Y++S):=by
   rw [jZ]
   have:P++y::((y::Y)++S)=(P++[y])++y::(Y++S):=by simp
   rw [this,show P.length+1=(P++[y]).length by simp,jZ]
  rw [e3] at r
  have hl:(P++x::((y::Y)++S)).length=((P++[y])++x::(Y++S)).length:=by simp
  have ih:=C3 (x:=x) (S:=S) (i:=i) Y (P++[y]) (.inl (by simp;omega)) (by rw [←hl];exact hs)
  rw [←hl] at ih
  have e4:(P++[y]).length=P.length+1:=by simp
  have e5:P++[y]++(Y++x::S)=P++((y::Y)++x::S):=by simp
  rw [e4,e5] at ih
  have e6:P.length+1+Y.length=P.length+(y::Y).length:=by simp;omega
  rw [e6] at ih
  exact aW r ih
abbrev ZL (n:Nat) (i j:Nat) (cs:List PV):St:=⟨[(0, .bs gk 0 3 n),(14, .pv (iv i)),(17, .pv (iv j))],[(gk,cs)],[],[]⟩
abbrev ZK (n:Nat) (i j:Nat) (cs:List PV):St:=⟨[(0, .bs gk 0 3 n),(14, .pv (iv i)),(17, .pv (iv j)),(110, .pv (bv false))],[(gk,cs)],[],[]⟩
theorem C4 {x:aj} {P:List aj}:∀(d:Nat) (X S:List aj),X.length=d→(P++(X++x::S)).length<2^60→
  aR (aI MD (v6 T) k 80 3) (d+1) (ZL (P++(X++x::S)).length P.length (P.length+d) (aq (P++(X++x::S))))=some (.exit 6,ZK (P++(X++x::S)).length P.length P.length (aq (P++x::(X++S))))
 |0,X,S,hd,hs=>by
  obtain rfl:=List.length_eq_zero_iff.1 hd
  refine aF ?_ (by simp)
  exact af (Z6 T k _ P.length P.length _) ⟨decide_eq_false (by omega),trivial⟩
 |d+1,X,S,hd,hs=>by
  rcases List.eq_nil_or_concat X with rfl|⟨X',y,rfl⟩
  · simp at hd
  · rw [List.concat_eq_append] at hd hs ⊢
    have hd:X'.length=d:=by simpa using hd
    have e1:P++((X'++[y])++x::S)=(P++X')++y::(x::S):=by simp
    have e2:P++((X'++[y])++x::S)=(P++X'++[y])++x::S:=by simp
    have a1:P.length+d=(P++X').length:=by simp;omega
    have a2:P.length+(d+1)=(P++X'++[y]).length:=by simp;omega
    have gy:(P++((X'++[y])++x::S))[P.length+d]? =some y:=by rw [e1,a1];exact dA _ _ _
    have gx:(P++((X'++[y])++x::S))[P.length+(d+1)]? =some x:=by rw [e2,a2];exact dA _ _ _
    have h1:P.length+(d+1)<(P++((X'++[y])++x::S)).length:=(List.getElem?_eq_some_iff.1 gx).1
    have h0:P.length+d<(P++((X'++[y])++x::S)).length:=by omega
    obtain ⟨p1,p2⟩:=mh mA y h1
    obtain ⟨q1,q2⟩:=mh mA (l:=(P++((X'++[y])++x::S)).set (P.length+(d+1)) y) x (i:=P.length+d) (by rw [List.length_set];exact h0)
    have L1:=fN gx
    have L2:=fN gy
    have w:IntKind.i64.wrap (((P.length+(d+1):Nat):Int) - 1)=((P.length+d:Nat):Int):=bu (by omega) (by omega) (by omega)
    have r:=af (Z5 T k (P++((X'++[y])++x::S)).length (P.length+d) (P.length+(d+1)) P.length _ _ _ x y)
     ⟨decide_eq_true (by omega),w,w,⟨rfl,h0⟩,⟨rfl,h1⟩,L2,L1,⟨rfl,h1⟩,p1,p2,⟨rfl,h0⟩,q1,q2,L1,L2,⟨rfl,h1⟩,p1,p2,⟨rfl,h0⟩,q1,q2,rfl,w,trivial⟩
    have e3:((P++((X'++[y])++x::S)).set (P.length+(d+1)) y).set (P.length+d) x=P++(X'++x::(y::S)):=by
     rw [e2,a2,jZ]
     have:(P++X'++[y])++y::S=(P++X')++y::(y::S):=by simp
     rw [this,a1,jZ]
     simp
    rw [e3] at r
    have hl:(P++((X'++[y])++x::S)).length=(P++(X'++x::(y::S))).length:=by simp
    have ih:=C4 (x:=x) (P:=P) d X' (y::S) hd (by rw [←hl];exact hs)
    rw [←hl] at ih
    have e5:P++x::(X'++y::S)=P++x::((X'++[y])++S):=by simp
    rw [e5] at ih
    exact aW r ih
end
end Go.Proofs.YtibbgjafjhcemaaDoor.Cul
namespace Go.Proofs.YtibbgjafjhcemaaDoor.Cul
open Go Go.RowKit
abbrev ee (l:List aj):Prop:=l.Pairwise (fun x y=>kS x=true→kS y=true)
abbrev f0 (l:List aj):List aj:=l.filter (fun x=> !kS x)
abbrev f1 (l:List aj):List aj:=l.filter kS
theorem pE (l:List aj):ss kS l=f0 l++f1 l:=rfl
theorem rB {l:List aj}:f0 l=[]↔∀x∈l,kS x=true:=by simp [f0]
theorem E2 {l:List aj}:f1 l=[]↔∀x∈l,kS x=false:=by simp [f1]
theorem wo (l:List aj):ee (ss kS l):=by
 rw [pE]
 refine List.pairwise_append.2 ⟨?_, ?_, ?_⟩
 · refine List.Pairwise.imp_of_mem (R:=fun _ _=>True) ?_ (List.pairwise_of_forall (fun _ _=>trivial))
   intro x y hx _ _ h
   have:=(List.mem_filter.1 hx).2
   simp [h] at this
 · refine List.Pairwise.imp_of_mem (R:=fun _ _=>True) ?_ (List.pairwise_of_forall (fun _ _=>trivial))
   intro x y _ hy _ _
   exact (List.mem_filter.1 hy).2
 · intro x _ y hy _
   exact (List.mem_filter.1 hy).2
theorem ja:∀{l:List aj},ee l→ss kS l=l
 |[],_=>rfl
 |x::l,h=>by
  obtain ⟨h1,h2⟩:=List.pairwise_cons.1 h
  have ih:=ja h2
  rw [pE] at ih ⊢
  cases hx:kS x with
  |true=>
   have e0:f0 (x::l)=[]:=rB.2 (by
    intro y hy
    rcases List.mem_cons.1 hy with rfl|hy
    · exact hx
    · exact h1 y hy hx)
   rw [e0,List.nil_append,f1,List.filter_eq_self]
   exact rB.1 e0
  |false=>
   simp only [f0,f1,List.filter_cons,hx,Bool.not_false,if_true,List.cons_append] at ih ⊢
   simpa using ih
theorem mX {X Y:List aj} (h:ee (X++Y)):ee X∧ee Y∧(f1 X=[]∨f0 Y=[]):=by
 obtain ⟨h1,h2,h3⟩:=List.pairwise_append.1 h
 refine ⟨h1,h2, ?_⟩
 by_cases e:f1 X=[]
 · exact .inl e
 · obtain ⟨x,hx⟩:=List.exists_mem_of_ne_nil _ e
   exact .inr (rB.2 fun y hy=>h3 x (List.mem_filter.1 hx).1 y hy (List.mem_filter.1 hx).2)
theorem rS {X1 X2 Y1 Y2:List aj} (hX:ee (X1++X2)) (hY:ee (Y1++Y2)) (h1:f1 X1=[]∨f0 Y2=[]) (h2:X2=[]∨Y1=[]∨(f1 Y1=[]∧f0 X2=[])):
  ss kS (X1++Y1)++ss kS (X2++Y2)=ss kS ((X1++X2)++(Y1++Y2)):=by
 obtain ⟨_,_,a⟩:=mX hX
 obtain ⟨_,_,b⟩:=mX hY
 simp only [pE,f0,f1,List.filter_append] at*
 rcases h2 with rfl|rfl|⟨h2,h3⟩
 · rcases h1 with h1|h1<;>rcases b with b|b<;>simp [h1,b]
 · rcases h1 with h1|h1<;>rcases a with a|a<;>simp [h1,a]
 · rcases h1 with h1|h1<;>simp [h1,h2,h3]
theorem A7 {X:List aj} {y:aj} (h:ee (X++[y])) (hy:kS y=false):f1 (X++[y])=[]:=by
 obtain ⟨_,_,h3⟩:=List.pairwise_append.1 h
 refine E2.2 fun x hx=> ?_
 rcases List.mem_append.1 hx with hx|hx
 · cases e:kS x with
   |false=>rfl
   |true=>rw [h3 x hx y (by simp) e] at hy;simp at hy
 · rw [List.mem_singleton.1 hx,hy]
theorem yw {Y:List aj} {x:aj} (h:ee (x::Y)) (hx:kS x=true):f0 (x::Y)=[]:=by
 obtain ⟨h1,_⟩:=List.pairwise_cons.1 h
 refine rB.2 fun y hy=> ?_
 rcases List.mem_cons.1 hy with rfl|hy
 · exact hx
 · exact h1 y hy hx
theorem wP {P X1 M Y2 S:List aj} (hx:ee X1) (hy:ee Y2) (h:X1=[]∨Y2=[]∨¬jF (P++(X1++(M++(Y2++S)))) (P.length+X1.length+M.length) (P.length+X1.length - 1)):f1 X1=[]∨f0 Y2=[]:=by
 rcases h with rfl|rfl|h
 · exact .inl rfl
 · exact .inr rfl
 · rcases List.eq_nil_or_concat X1 with rfl|⟨X,x,rfl⟩
   · exact .inl rfl
   · cases Y2 with
     |nil=>exact .inr rfl
     |cons y Y=>
      rw [List.concat_eq_append] at*
      cases ey:kS y with
      |true=>exact .inr (yw hy ey)
      |false=>
       cases ex:kS x with
       |false=>exact .inl (A7 hx ex)
       |true=>
        refine absurd ⟨y,x, ?_, ?_,ey,ex⟩ h
        · have e:P++((X++[x])++(M++((y::Y)++S)))=(P++((X++[x])++M))++y::(Y++S):=by simp
          rw [e,show P.length+(X++[x]).length+M.length=(P++((X++[x])++M)).length by simp only [List.length_append];omega]
          exact dA _ _ _
        · have e:P++((X++[x])++(M++((y::Y)++S)))=(P++X)++x::(M++((y::Y)++S)):=by simp
          rw [e,show P.length+(X++[x]).length - 1=(P++X).length by simp only [List.length_append,List.length_singleton];omega]
          exact dA _ _ _
theorem wQ {P X2 Y1 S:List aj} (hx:ee X2) (hy:ee Y1) (h:X2=[]∨Y1=[]∨jF (P++(X2++(Y1++S))) (P.length+X2.length+Y1.length - 1) P.length):X2=[]∨Y1=[]∨(f1 Y1=[]∧f0 X2=[]):=by
 rcases h with h|h|⟨u,v,hu,hv,ku,kv⟩
 · exact .inl h
 · exact .inr (.inl h)
 · rcases List.eq_nil_or_concat Y1 with rfl|⟨Y,y,rfl⟩
   · exact .inr (.inl rfl)
   · cases X2 with
     |nil=>exact .inl rfl
     |cons x X=>
      rw [List.concat_eq_append] at*
      refine .inr (.inr ⟨?_, ?_⟩)
      · have e:P++((x::X)++((Y++[y])++S))=(P++((x::X)++Y))++y::S:=by simp
        rw [e,show P.length+(x::X).length+(Y++[y]).length - 1=(P++((x::X)++Y)).length by simp only [List.length_append,List.length_singleton];omega,dA] at hu
        obtain rfl:=Option.some.inj hu
        exact A7 hy ku
      · have e:P++((x::X)++((Y++[y])++S))=P++x::(X++((Y++[y])++S)):=by simp
        rw [e,dA] at hv
        obtain rfl:=Option.some.inj hv
        exact yw hx kv
theorem Di {T:List MA→Option (MR×List PV)} {k:Nat} {e:Code} {r:Xt×St} {s1:St}:∀{l:List Code} {c:Code} {st:St},c=l.foldr Code.seq e→cI MD.P (v6 T) MD.iter (fun g=>aR g k) (MD.note 80) (kR l) st=some (.normal,s1)→cI MD.P (v6 T) MD.iter (fun g=>aR g k) (MD.note 80) e s1=some r→cI MD.P (v6 T) MD.iter (fun g=>aR g k) (MD.note 80) c st=some r
 |[],c,st,hc,h1,h2=>by
  subst hc
  simp only [kR,cI,Option.some.injEq,Prod.mk.injEq,true_and] at h1
  subst h1
  exact h2
 |a::l,c,st,hc,h1,h2=>by
  subst hc
  simp only [kR,cI,List.foldr_cons,Option.bind_eq_some_iff] at h1 ⊢
  obtain ⟨⟨x,s⟩,g1,g2⟩:=h1
  refine ⟨(x,s),g1, ?_⟩
  cases x with
  |normal=>exact Di rfl g2 h2
  |ret=>simp at g2
  |exit i=>simp at g2
theorem Lw:bX 0=[cX (bX 0),cX (bX 1),cX (bX 2),cX (bX 3),cX (bX 4),cX (bX 5),cX (bX 6),cX (bX 7)].foldr Code.seq (bX 8):=by kernel_rfl
theorem Lx:bX 8=[cX (bX 8),cX (bX 9)].foldr Code.seq (bX 10):=by kernel_rfl
theorem Ly:bX 10=[cX (bX 10)].foldr Code.seq (bX 11):=by kernel_rfl
theorem fc {T:List MA→Option (MR×List PV)} {k:Nat} {c:Code} {st:St} {s s':List El} {x:Xt×St} {ob:List Prop} (h:iB T k c st s=some (x,s',ob)) (ho:cH ob):cI MD.P (v6 T) MD.iter (fun g=>aR g k) (MD.note 80) c st=some x:=cY _ _ _ _ _ _ h ho
theorem Lo:(((MD.P.funcs[80]?).bind (·.body)))=some (bX 0):=by kernel_rfl
theorem LN:(flat (bX 0)&&fV (MD.note 80) (bX 0)&&(dstsOf (bX 0)).all (fun d=>d !=gk))=true:=by kernel_rfl
theorem Pg:((MD.P.funcs[80]?).map (·.results))=some #[]:=by kernel_rfl
theorem Ou {T:List MA→Option (MR×List PV)} (hC:aP MD.P (v6 T)) {k n:Nat} {cs cs':List PV} {a m b:PV} {st:St} (hr:cI MD.P (v6 T) MD.iter (fun g=>aR g k) (MD.note 80) (bX 0) (.eI [.g cs 0 3 n, .p a, .p m, .p b, .p aX])=some (.normal,st)) (hb:look st.bx gk=some cs') (h1:cs'.all bS=true) (h2:cs'.length=cs.length):
  dy P0 80 [.g cs 0 3 n, .p a, .p m, .p b, .p aX] (.pv (.an [])) cs':=by
 have b1:=Lo
 have b2:=Pg
 simp only [Option.bind_eq_some_iff,Option.map_eq_some_iff] at b1 b2
 obtain ⟨fn,hf,hbd⟩:=b1
 obtain ⟨fn',hf',Xd⟩:=b2
 rw [hf] at hf'
 obtain rfl:=Option.some.inj hf'
 refine uo hC ah.sO ah.o4 hf (ah.fns 80 fn hf (by rfl)) (note:=MD.note 80) (k:=k) ?_
 simp only [oJ,hbd,Option.bind_some,LN,if_true,hr,Xd,rT,hb,cZ,h1,h2,and_self]
end Go.Proofs.YtibbgjafjhcemaaDoor.Cul
namespace Go.Proofs.YtibbgjafjhcemaaDoor.Cul
open Go Go.RowKit
theorem GU {X Y:List aj} (hX:ee X) (hY:ee Y) (h:f1 X=[]∨f0 Y=[]):ee (X++Y):=by
 refine List.pairwise_append.2 ⟨hX,hY,fun x hx y hy e=> ?_⟩
 rcases h with h|h
 · rw [E2.1 h x hx] at e;simp at e
 · exact rB.1 h y hy
theorem NQ:∀ms r cs',NO ms=some (r,cs')→dy P0 91 ms r cs':=kH fun x h=>by
 obtain ⟨l,a,m,b,c⟩:=x
 obtain ⟨⟨h1,h2⟩,h3,h4⟩:=h
 simp only at h1 h2 h3 h4 ⊢
 obtain ⟨P,R,S',rfl,e1,e2⟩:=nN (l:=l) (a:=a) (b:=b) (by omega) h3
 obtain ⟨X,Y,Z,rfl,e3,e4⟩:=nN (l:=R) (a:=m - a) (b:=b - a) (by omega) (by omega)
 have e5:Z=[]:=List.length_eq_zero_iff.1 (by simp only [List.length_append] at e2;omega)
 subst e5
 have el:P++(X++(Y++[])++S')=P++(X++(Y++S')):=by simp
 have key:=Gr P X Y S' c (by omega) (by omega) (by rw [←el];exact h4)
 have e6:=Gy (P:=P) (X:=X) (Y:=Y) (S:=S')
 have em:P.length+X.length=m:=by omega
 have eb:m+Y.length=b:=by omega
 rw [←e6,em,eb,e1] at key
 rw [el]
 exact key
theorem NP {P X Y S:List aj} {c:PV} (hx:0<X.length) (hy:0<Y.length) (hs:(P++(X++(Y++S))).length<2^60):
  NO [.g (aq (P++(X++(Y++S)))) 0 3 (P++(X++(Y++S))).length, .p (iv P.length), .p (iv (P.length+X.length:Nat)), .p (iv (P.length+X.length+Y.length:Nat)), .p c]=some (.pv (.an []),aq (P++(Y++(X++S)))):=by
 have:=kG (pre:=fun x:List aj×Nat×Nat×Nat×PV=>(x.2.1<x.2.2.1∧x.2.2.1<x.2.2.2.1)∧x.2.2.2.1≤x.1.length∧x.1.length<2^60) (a:=(P++(X++(Y++S)),P.length,P.length+X.length,P.length+X.length+Y.length,c)) (enc:=fun x:List aj×Nat×Nat×Nat×PV=>[.g (aq x.1) 0 3 x.1.length, .p (iv x.2.1), .p (iv x.2.2.1), .p (iv x.2.2.2.1), .p x.2.2.2.2]) (g:=fun x=>(.pv (.an []),aq (JC x.1 x.2.1 x.2.2.1 x.2.2.2.1))) (fun a b e=>by
  obtain ⟨a1,a2,a3,a4,a5⟩:=a;obtain ⟨b1,b2,b3,b4,b5⟩:=b
  simp only [List.cons.injEq,and_true,MA.g.injEq,MA.p.injEq] at e
  obtain ⟨⟨e1,_⟩,e2,e3,e4,e5⟩:=e
  have e2:=di e2
  have e3:=di e3
  have e4:=di e4
  obtain rfl:a2=b2:=by omega
  obtain rfl:a3=b3:=by omega
  obtain rfl:a4=b4:=by omega
  rw [lB e1]) ⟨⟨by simp only;omega,by simp only;omega⟩,by simp only [List.length_append];omega,hs⟩
 rw [Gy] at this
 exact this
noncomputable def fe (d:Nat):List MA→Option (MR×List PV):=pz (fun x:List aj×Nat×Nat×Nat=>((x.2.1<x.2.2.1∧x.2.2.1<x.2.2.2∧x.2.2.2≤x.1.length)∧x.1.length<2^60∧x.2.2.2≤x.2.1+d)∧ee ((x.1.drop x.2.1).take (x.2.2.1 - x.2.1))∧ee ((x.1.drop x.2.2.1).take (x.2.2.2 - x.2.2.1))) (fun x=>[.g (aq x.1) 0 3 x.1.length, .p (iv x.2.1), .p (iv x.2.2.1), .p (iv x.2.2.2), .p aX]) (fun x=>(.pv (.an []),aq (CQ kS x.1 x.2.1 x.2.2.2)))
theorem th {d:Nat} {P A B S:List aj} (hA:0<A.length) (hB:0<B.length) (sA:ee A) (sB:ee B) (hd:A.length+B.length≤d) (hs:(P++(A++(B++S))).length<2^60):
  fe d [.g (aq (P++(A++(B++S)))) 0 3 (P++(A++(B++S))).length, .p (iv P.length), .p (iv (P.length+A.length:Nat)), .p (iv (P.length+A.length+B.length:Nat)), .p aX]=some (.pv (.an []),aq (P++(ss kS (A++B)++S))):=by
 have:=kG (pre:=fun x:List aj×Nat×Nat×Nat=>((x.2.1<x.2.2.1∧x.2.2.1<x.2.2.2∧x.2.2.2≤x.1.length)∧x.1.length<2^60∧x.2.2.2≤x.2.1+d)∧ee ((x.1.drop x.2.1).take (x.2.2.1 - x.2.1))∧ee ((x.1.drop x.2.2.1).take (x.2.2.2 - x.2.2.1))) (a:=(P++(A++(B++S)),P.length,P.length+A.length,P.length+A.length+B.length)) (enc:=fun x:List aj×Nat×Nat×Nat=>[.g (aq x.1) 0 3 x.1.length, .p (iv x.2.1), .p (iv x.2.2.1), .p (iv x.2.2.2), .p aX]) (g:=fun x=>(.pv (.an []),aq (CQ kS x.1 x.2.1 x.2.2.2))) (fun a b e=>by
  obtain ⟨a1,a2,a3,a4⟩:=a;obtain ⟨b1,b2,b3,b4⟩:=b
  simp only [List.cons.injEq,and_true,MA.g.injEq,MA.p.injEq] at e
  obtain ⟨⟨e1,_⟩,e2,e3,e4⟩:=e
  have e2:=di e2
  have e3:=di e3
  have e4:=di e4
  obtain rfl:a2=b2:=by omega
  obtain rfl:a3=b3:=by omega
  obtain rfl:a4=b4:=by omega
  rw [lB e1]) ⟨⟨⟨by simp only;omega,by simp only;omega,by simp only [List.length_append];omega⟩,hs,by simp only;omega⟩,by
   simp only
   rw [drop_left' rfl,take_left' (by omega)];exact sA,by
   simp only
   have e:P++(A++(B++S))=(P++A)++(B++S):=by simp
   rw [e,drop_left' (by simp),take_left' (by omega)];exact sB⟩
 have e:P++(A++(B++S))=P++((A++B)++S):=by simp
 have e2:P.length+A.length+B.length=P.length+(A++B).length:=by simp only [List.length_append];omega
 have e3:=wj kS (P:=P) (L:=A++B) (S:=S)
 rw [←e2,←e] at e3
 simp only [e3] at this
 exact this
def sD (d:Nat):Prop:=∀P A B S:List aj,A.length+B.length≤d→0<A.length→0<B.length→ee A→ee B→(P++(A++(B++S))).length<2^60→
 dy P0 80 [.g (aq (P++(A++(B++S)))) 0 3 (P++(A++(B++S))).length, .p (iv P.length), .p (iv (P.length+A.length:Nat)), .p (iv (P.length+A.length+B.length:Nat)), .p aX] (.pv (.an [])) (aq (P++(ss kS (A++B)++S)))
theorem CU {d:Nat} (hd:sD d):∀ms r cs',fe d ms=some (r,cs')→dy P0 80 ms r cs':=kH fun x h=>by
 obtain ⟨l,a,m,b⟩:=x
 obtain ⟨⟨⟨h1,h2,h3⟩,h4,h5⟩,h6,h7⟩:=h
 simp only at h1 h2 h3 h4 h5 h6 h7 ⊢
 obtain ⟨P,R,S',rfl,e1,e2⟩:=nN (l:=l) (a:=a) (b:=b) (by omega) h3
 obtain ⟨X,Y,Z,rfl,e3,e4⟩:=nN (l:=R) (a:=m - a) (b:=b - a) (by omega) (by omega)
 have e5:Z=[]:=List.length_eq_zero_iff.1 (by simp only [List.length_append] at e2;omega)
 subst e5
 have el:P++(X++(Y++[])++S')=P++(X++(Y++S')):=by simp
 have qM:P++(X++(Y++S'))=(P++X)++(Y++S'):=by simp
 have BR:P++(X++(Y++S'))=P++((X++Y)++S'):=by simp
 rw [el] at h4 h6 h7 ⊢
 have em:P.length+X.length=m:=by omega
 have eb:m+Y.length=b:=by omega
 rw [←e1,drop_left' rfl,take_left' (by omega)] at h6
 rw [qM,drop_left' (by simp;omega),take_left' (by omega)] at h7
 have key:=hd P X Y S' (by omega) (by omega) (by omega) h6 h7 h4
 have e6:=wj kS (P:=P) (L:=X++Y) (S:=S')
 have e7:P.length+(X++Y).length=b:=by simp only [List.length_append];omega
 rw [←BR,e7] at e6
 rw [←e6,em,eb,e1] at key
 exact key
theorem En {d:Nat} (hd:sD d):aP MD.P (v6 (fe d)):=j3 (au (aE fun p _=>EG p.1 p.2) aL) (gm NQ (gm (CU hd) jf))
theorem l9 {α:Type} (l:List α):l=[]∨0<l.length:=by cases l<;>simp
theorem K6 {d:Nat} (hd:sD d) {P B S:List aj} {x:aj} (hB:0<B.length) (sB:ee B) (hs:(P++([x]++(B++S))).length<2^60):
  dy P0 80 [.g (aq (P++([x]++(B++S)))) 0 3 (P++([x]++(B++S))).length, .p (iv P.length), .p (iv (P.length+[x].length:Nat)), .p (iv (P.length+[x].length+B.length:Nat)), .p aX] (.pv (.an [])) (aq (P++(ss kS ([x]++B)++S))):=by
 have hl:(P++([x]++(B++S))).length=P.length+(1+(B.length+S.length)):=by simp only [List.length_append,List.length_singleton]
 obtain ⟨s,s1,s2,c1,c2,lp⟩:=La (T:=fe d) (k:=B.length+2) (l:=P++([x]++(B++S))) (a:=P.length) (m:=P.length+1) (b:=P.length+1+B.length) (by omega) (by omega) (by omega) hs
 obtain ⟨B1,B2,rfl,hB1⟩:∃B1 B2,B=B1++B2∧B1.length=s - (P.length+1):=⟨B.take (s - (P.length+1)),B.drop (s - (P.length+1)),(List.take_append_drop _ _).symm,by simp;omega⟩
 have el:P++([x]++((B1++B2)++S))=P++([x]++(B1++(B2++S))):=by simp
 have qM:P++([x]++((B1++B2)++S))=P++x::(B1++(B2++S)):=by simp
 have LW:(B1++B2).length=B1.length+B2.length:=List.length_append
 simp only [LW] at hB hl s2 c2 lp
 obtain ⟨t1,t2,t3⟩:=mX sB
 have q2:=wQ (P:=P) (X2:=[x]) (Y1:=B1) (S:=B2++S) (by simp) t1 (by
  rcases c1 with h|h
  · exact .inr (.inl (List.length_eq_zero_iff.1 (by omega)))
  · refine .inr (.inr ?_)
    rw [el] at h
    rw [show P.length+[x].length+B1.length - 1=s - 1 by simp;omega]
    exact h)
 have q1:=wP (P:=P) (X1:=[x]) (M:=B1) (Y2:=B2) (S:=S) (by simp) t2 (by
  rcases c2 with h|h
  · exact .inr (.inl (List.length_eq_zero_iff.1 (by omega)))
  · refine .inr (.inr ?_)
    rw [el] at h
    rw [show P.length+[x].length+B1.length=s by simp;omega]
    simpa using h)
 have ml:=rS (X1:=[]) (X2:=[x]) (Y1:=B1) (Y2:=B2) (by simp) sB (.inl rfl) q2
 simp only [List.nil_append] at ml
 have t4:ee ([x]++B2):=GU (by simp) t2 q1
 rw [ja t1,ja t4] at ml
 have jl:=C3 (T:=fe d) (k:=B1.length+B2.length+2) (x:=x) (S:=B2++S) (i:=s) B1 P (.inl (by omega)) (by rw [←qM];exact hs)
 rw [←qM] at jl
 have fin:P++(B1++x::(B2++S))=P++(ss kS ([x]++(B1++B2))++S):=by rw [←ml];simp
 rw [fin] at jl
 have jt:(P++(ss kS ([x]++(B1++B2))++S)).length=(P++([x]++((B1++B2)++S))).length:=by simp only [List.length_append,dm];omega
 have hb:(P.length+[x].length+(B1++B2).length:Nat)=P.length+1+(B1.length+B2.length):=by simp
 rw [hb]
 exact eu ah (En hd) (by rfl) (zmN (fe d) (B1.length+B2.length+2) (P++([x]++((B1++B2)++S))).length P.length (P.length+1:Nat) (P.length+1+(B1.length+B2.length):Nat) 1 s (P.length+B1.length) (aq (P++([x]++((B1++B2)++S)))) (aq (P++(ss kS ([x]++(B1++B2))++S))))
  ⟨iw _,by rw [cM,cM,jt],bu (by omega) (by omega) (by omega),rfl,bH (by omega) lp,bH (by omega) jl,trivial⟩
theorem K7 {d:Nat} (hd:sD d) {P A S:List aj} {y:aj} (hA:1<A.length) (sA:ee A) (hs:(P++(A++([y]++S))).length<2^60):
  dy P0 80 [.g (aq (P++(A++([y]++S)))) 0 3 (P++(A++([y]++S))).length, .p (iv P.length), .p (iv (P.length+A.length:Nat)), .p (iv (P.length+A.length+[y].length:Nat)), .p aX] (.pv (.an [])) (aq (P++(ss kS (A++[y])++S))):=by
 have hl:(P++(A++([y]++S))).length=P.length+(A.length+(1+S.length)):=by simp only [List.length_append,List.length_singleton]
 obtain ⟨s,s1,s2,c1,c2,lp⟩:=Lb (T:=fe d) (k:=A.length+2) (l:=P++(A++([y]++S))) (a:=P.length) (m:=P.length+A.length) (by omega) (by omega) hs
 obtain ⟨A1,A2,rfl,hA1⟩:∃A1 A2,A=A1++A2∧A1.length=s - P.length:=⟨A.take (s - P.length),A.drop (s - P.length),(List.take_append_drop _ _).symm,by simp;omega⟩
 have el:P++((A1++A2)++([y]++S))=P++(A1++(A2++([y]++S))):=by simp
 have qM:P++((A1++A2)++([y]++S))=(P++A1)++(A2++([y]++S)):=by simp
 have BR:P++((A1++A2)++([y]++S))=(P++A1)++(A2++y::S):=by simp
 have LV:(A1++A2).length=A1.length+A2.length:=List.length_append
 simp only [LV] at hA hl s2 c2 lp c1
 obtain ⟨t1,t2,t3⟩:=mX sA
 have q2:=wQ (P:=P++A1) (X2:=A2) (Y1:=[y]) (S:=S) t2 (by simp) (by
  rcases c2 with h|h
  · exact .inl (List.length_eq_zero_iff.1 (by omega))
  · refine .inr (.inr ?_)
    have h:=Classical.not_not.1 h
    rw [qM] at h
    rw [show (P++A1).length+A2.length+[y].length - 1=P.length+(A1.length+A2.length) by simp;omega,show (P++A1).length=s by simp;omega]
    exact h)
 have q1:=wP (P:=P) (X1:=A1) (M:=A2) (Y2:=[y]) (S:=S) t1 (by simp) (by
  rcases c1 with h|h
  · exact .inl (List.length_eq_zero_iff.1 (by omega))
  · refine .inr (.inr ?_)
    rw [el] at h
    rw [show P.length+A1.length+A2.length=P.length+(A1.length+A2.length) by omega,show P.length+A1.length - 1=s - 1 by omega]
    exact h)
 have ml:=rS (X1:=A1) (X2:=A2) (Y1:=[y]) (Y2:=[]) sA (by simp) (.inr rfl) q2
 simp only [List.append_nil] at ml
 have t4:ee (A1++[y]):=GU t1 (by simp) q1
 rw [ja t4,ja t2] at ml
 have jl:=C4 (T:=fe d) (k:=A1.length+A2.length+2) (x:=y) (P:=P++A1) A2.length A2 S rfl (by rw [←BR];exact hs)
 rw [←BR] at jl
 have fin:(P++A1)++y::(A2++S)=P++(ss kS ((A1++A2)++[y])++S):=by rw [←ml];simp
 rw [fin] at jl
 have e1:(P++A1).length=s:=by simp;omega
 have e2:s+A2.length=P.length+(A1.length+A2.length):=by omega
 rw [e1,e2] at jl
 have jt:(P++(ss kS ((A1++A2)++[y])++S)).length=(P++((A1++A2)++([y]++S))).length:=by simp only [List.length_append,dm];omega
 have hm:(P.length+(A1++A2).length:Nat)=P.length+(A1.length+A2.length):=by simp
 have hb:(P.length+(A1.length+A2.length)+[y].length:Nat)=P.length+(A1.length+A2.length)+1:=by simp
 rw [hm,hb]
 exact eu ah (En hd) (by rfl) (zmO (fe d) (A1.length+A2.length+2) (P++((A1++A2)++([y]++S))).length P.length (P.length+(A1.length+A2.length):Nat) (P.length+(A1.length+A2.length)+1:Nat) (A1.length+A2.length:Nat) 1 s s (aq (P++((A1++A2)++([y]++S)))) (aq (P++(ss kS ((A1++A2)++[y])++S))))
  ⟨iw _,by rw [cM,cM,jt],bu (by omega) (by omega) (by omega),by simp;omega,bu (by omega) (by omega) (by omega),rfl,bH (by omega) lp,bH (by omega) jl,trivial⟩
end Go.Proofs.YtibbgjafjhcemaaDoor.Cul
namespace Go.Proofs.YtibbgjafjhcemaaDoor.Cul
open Go Go.RowKit
noncomputable abbrev D4 (T:List MA→Option (MR×List PV)) (k:Nat) (c:Code) (st:St):Option (Xt×St):=cI MD.P (v6 T) MD.iter (fun g=>aR g k) (MD.note 80) c st
theorem TA {T:List MA→Option (MR×List PV)} {k:Nat} {l:List aj} {a m b:Nat} (h1:a+1<m) (h2:m+1<b) (hb:b≤l.length) (hs:l.length<2^60) (hk:b≤k):
  ∃s,a≤s∧s≤m∧s≤(a+b) / 2∧(a+b) / 2+m≤b+s∧(s=a∨(a+b) / 2+m=b+s∨¬jF l ((a+b) / 2+m - s) (s - 1))∧(s=m∨s=(a+b) / 2∨jF l ((a+b) / 2+m - 1 - s) s)∧
   D4 T k (kR [cX (bX 0),cX (bX 1),cX (bX 2),cX (bX 3),cX (bX 4),cX (bX 5),cX (bX 6),cX (bX 7)]) (.eI [.g (aq l) 0 3 l.length, .p (iv a), .p (iv m), .p (iv b), .p aX])=some (.normal,JZ l.length a m b ((a+b) / 2:Nat) ((a+b) / 2+m:Nat) ((a+b) / 2+m - 1:Nat) s (aq l)):=by
 obtain ⟨m1,m2,m3,m5⟩:=nD (i:=a) (j:=b) (by omega)
 obtain ⟨mid,hmid⟩:∃mid,mid=(a+b) / 2:=⟨_,rfl⟩
 rw [←hmid] at m3 m5 ⊢
 rcases Nat.lt_or_ge mid m with h|h
 · obtain ⟨s,s1,s2,c1,c2,lp⟩:=C5 (T:=T) (k:=k) (l:=l) (a:=a) (m:=m) (b:=b) (mid:=mid) (nn:=(mid+m:Nat)) (p:=mid+m - 1) (i0:=mid+m - b) (j0:=mid) (by omega) (by omega) (by omega) (by omega) hs
   refine ⟨s,by omega,by omega,by omega,by omega, ?_, ?_, ?_⟩
   · rcases c1 with c1|c1
     · exact .inr (.inl (by omega))
     · by_cases e:s=a
       · exact .inl e
       · exact .inr (.inr (by rw [show mid+m - 1 - (s - 1)=mid+m - s by omega] at c1;exact c1))
   · rcases c2 with c2|c2
     · exact .inr (.inl c2)
     · exact .inr (.inr (Classical.not_not.1 c2))
   · exact fc (zmP T k l.length a m b (m - a:Nat) (b - m:Nat) (a+b:Nat) mid (mid+m:Nat) (mid+m - b:Nat) (mid+m - 1:Nat) s (aq l))
      ⟨bu (by omega) (by omega) (by omega),by simp;omega,bu (by omega) (by omega) (by omega),by simp;omega,m1,m2,m3,rfl,m5,bu (by omega) (by omega) (by omega),decide_eq_true (by omega),bu (by omega) (by omega) (by omega),bu (by omega) (by omega) (by omega),bH (by omega) lp,trivial⟩
 · obtain ⟨s,s1,s2,c1,c2,lp⟩:=C5 (T:=T) (k:=k) (l:=l) (a:=a) (m:=m) (b:=b) (mid:=mid) (nn:=(mid+m:Nat)) (p:=mid+m - 1) (i0:=a) (j0:=m) (by omega) (by omega) (by omega) (by omega) hs
   refine ⟨s,by omega,by omega,by omega,by omega, ?_, ?_, ?_⟩
   · rcases c1 with c1|c1
     · exact .inl c1
     · by_cases e:s=a
       · exact .inl e
       · exact .inr (.inr (by rw [show mid+m - 1 - (s - 1)=mid+m - s by omega] at c1;exact c1))
   · rcases c2 with c2|c2
     · exact .inl c2
     · exact .inr (.inr (Classical.not_not.1 c2))
   · exact fc (zmQ T k l.length a m b (m - a:Nat) (b - m:Nat) (a+b:Nat) mid (mid+m:Nat) (mid+m - 1:Nat) s (aq l))
      ⟨bu (by omega) (by omega) (by omega),by simp;omega,bu (by omega) (by omega) (by omega),by simp;omega,m1,m2,m3,rfl,m5,bu (by omega) (by omega) (by omega),decide_eq_false (by omega),bu (by omega) (by omega) (by omega),bH (by omega) lp,trivial⟩
abbrev zA (n:Nat) (a b mid x e:Int) (cs:List PV):St:=⟨[(0, .bs gk 0 3 n),(1, .pv (iv a)),(3, .pv (iv b)),(4, .pv aX),(18, .pv (iv mid)),(20, .pv (iv x)),(24, .pv (iv e))],[(gk,cs)],[],[]⟩
abbrev zB (n:Nat) (a m b mid x e:Int) (cs:List PV):St:=⟨[(0, .bs gk 0 3 n),(1, .pv (iv a)),(2, .pv (iv m)),(3, .pv (iv b)),(4, .pv aX),(18, .pv (iv mid)),(20, .pv (iv x)),(24, .pv (iv e)),(185, .pv (bv false))],[(gk,cs)],[],[]⟩
abbrev zC (n:Nat) (b mid e:Int) (cs:List PV):St:=⟨[(0, .bs gk 0 3 n),(3, .pv (iv b)),(4, .pv aX),(18, .pv (iv mid)),(24, .pv (iv e))],[(gk,cs)],[],[]⟩
abbrev zD (n:Nat) (a b mid x e:Int) (cs:List PV):St:=⟨[(0, .bs gk 0 3 n),(1, .pv (iv a)),(3, .pv (iv b)),(4, .pv aX),(18, .pv (iv mid)),(20, .pv (iv x)),(24, .pv (iv e)),(199, .pv (bv false))],[(gk,cs)],[],[]⟩
theorem TB {T:List MA→Option (MR×List PV)} {k n:Nat} {a b mid p:Int} {nn s m e:Nat} {Q X2 Y1 R:List aj} (hn:(Q++(X2++(Y1++R))).length=n) (hs:n<2^60) (h1:Q.length=s) (h2:s+X2.length=m) (h3:m+Y1.length=e) (h4:nn=e+s):
  ∃st,(st=zA n a b mid s e (aq (Q++(Y1++(X2++R))))∨st=zB n a m b mid s e (aq (Q++(Y1++(X2++R)))))∧
   D4 T k (kR [cX (bX 8),cX (bX 9)]) (JZ n a m b mid nn p s (aq (Q++(X2++(Y1++R)))))=some (.normal,st):=by
 have hl:(Q++(X2++(Y1++R))).length=Q.length+(X2.length+(Y1.length+R.length)):=by simp only [List.length_append]
 have w:IntKind.i64.wrap ((nn:Int) - (s:Int))=(e:Int):=bu (by omega) (by omega) (by omega)
 rcases l9 X2 with rfl|hx
 · refine ⟨_, .inr rfl, ?_⟩
   simp only [List.nil_append,List.length_nil] at*
   exact fc (zmS T k n a m b mid nn s p e _) ⟨w,decide_eq_false (by omega),trivial⟩
 · rcases l9 Y1 with rfl|hy
   · refine ⟨_, .inr rfl, ?_⟩
     simp only [List.nil_append,List.length_nil] at*
     exact fc (zmT T k n a m b mid nn s p e _) ⟨w,decide_eq_true (by omega),decide_eq_false (by omega),trivial⟩
   · refine ⟨_, .inl rfl, ?_⟩
     have ro:=NP (P:=Q) (X:=X2) (Y:=Y1) (S:=R) (c:=aX) hx hy (by omega)
     rw [hn,h1,h2,h3] at ro
     exact fc (zmR T k n a m b mid nn s p e _ _) ⟨w,decide_eq_true (by omega),decide_eq_true (by omega),ro,trivial⟩
theorem TC {d k n:Nat} {b:Int} {a m mid s e:Nat} {P X Y R:List aj} {st:St} (hst:st=zA n a b mid s e (aq (P++(X++(Y++R))))∨st=zB n a m b mid s e (aq (P++(X++(Y++R))))) (hn:(P++(X++(Y++R))).length=n) (hs:n<2^60) (h1:P.length=a) (h2:a+X.length=s) (h3:s+Y.length=mid) (sX:ee X) (sY:ee Y) (hd:X.length+Y.length≤d):
  ∃kT,(kT=zC n b mid e (aq (P++(ss kS (X++Y)++R)))∨kT=zD n a b mid s e (aq (P++(ss kS (X++Y)++R))))∧D4 (fe d) k (kR [cX (bX 10)]) st=some (.normal,kT):=by
 rcases l9 X with rfl|hx
 · refine ⟨_, .inr rfl, ?_⟩
   simp only [List.nil_append,List.length_nil,ja sY] at*
   rcases hst with rfl|rfl
   · exact fc (zmV (fe d) k n a b mid s e _) ⟨decide_eq_false (by omega),trivial⟩
   · exact fc (zmY (fe d) k n a m b mid s e _) ⟨decide_eq_false (by omega),trivial⟩
 · rcases l9 Y with rfl|hy
   · refine ⟨_, .inr rfl, ?_⟩
     simp only [List.nil_append,List.append_nil,List.length_nil,ja sX] at*
     rcases hst with rfl|rfl
     · exact fc (zmW (fe d) k n a b mid s e _) ⟨decide_eq_true (by omega),decide_eq_false (by omega),trivial⟩
     · exact fc (zmZ (fe d) k n a m b mid s e _) ⟨decide_eq_true (by omega),decide_eq_false (by omega),trivial⟩
   · refine ⟨_, .inl rfl, ?_⟩
     have r:=th (d:=d) (P:=P) (A:=X) (B:=Y) (S:=R) hx hy sX sY hd (by omega)
     rw [hn,h1,h2,h3] at r
     rcases hst with rfl|rfl
     · exact fc (zmU (fe d) k n a b mid s e _ _) ⟨decide_eq_true (by omega),decide_eq_true (by omega),r,trivial⟩
     · exact fc (zmX (fe d) k n a m b mid s e _ _) ⟨decide_eq_true (by omega),decide_eq_true (by omega),r,trivial⟩
theorem TD {d k n:Nat} {a s:Int} {b mid e:Nat} {P X Y R:List aj} {st:St} (hst:st=zC n b mid e (aq (P++(X++(Y++R))))∨st=zD n a b mid s e (aq (P++(X++(Y++R))))) (hn:(P++(X++(Y++R))).length=n) (hs:n<2^60) (h1:P.length=mid) (h2:mid+X.length=e) (h3:e+Y.length=b) (sX:ee X) (sY:ee Y) (hd:X.length+Y.length≤d):
  ∃kT,look kT.bx gk=some (aq (P++(ss kS (X++Y)++R)))∧D4 (fe d) k (bX 11) st=some (.normal,kT):=by
 rcases l9 X with rfl|hx
 · simp only [List.nil_append,List.length_nil,ja sY] at*
   rcases hst with rfl|rfl
   · exact ⟨_,rfl,fc (znV (fe d) k n b mid e _) ⟨decide_eq_false (by omega),trivial⟩⟩
   · exact ⟨_,rfl,fc (znY (fe d) k n a b mid s e _) ⟨decide_eq_false (by omega),trivial⟩⟩
 · rcases l9 Y with rfl|hy
   · simp only [List.nil_append,List.append_nil,List.length_nil,ja sX] at*
     rcases hst with rfl|rfl
     · exact ⟨_,rfl,fc (znW (fe d) k n b mid e _) ⟨decide_eq_true (by omega),decide_eq_false (by omega),trivial⟩⟩
     · exact ⟨_,rfl,fc (znZ (fe d) k n a b mid s e _) ⟨decide_eq_true (by omega),decide_eq_false (by omega),trivial⟩⟩
   · have r:=th (d:=d) (P:=P) (A:=X) (B:=Y) (S:=R) hx hy sX sY hd (by omega)
     rw [hn,h1,h2,h3] at r
     rcases hst with rfl|rfl
     · exact ⟨_,rfl,fc (znU (fe d) k n b mid e _ _) ⟨decide_eq_true (by omega),decide_eq_true (by omega),r,trivial⟩⟩
     · exact ⟨_,rfl,fc (znX (fe d) k n a b mid s e _ _) ⟨decide_eq_true (by omega),decide_eq_true (by omega),r,trivial⟩⟩
theorem K5 {d:Nat} (hd:sD d) {P A B S:List aj} (V6:A.length+B.length≤d+1) (hA:1<A.length) (hB:1<B.length) (sA:ee A) (sB:ee B) (hs:(P++(A++(B++S))).length<2^60):
  dy P0 80 [.g (aq (P++(A++(B++S)))) 0 3 (P++(A++(B++S))).length, .p (iv P.length), .p (iv (P.length+A.length:Nat)), .p (iv (P.length+A.length+B.length:Nat)), .p aX] (.pv (.an [])) (aq (P++(ss kS (A++B)++S))):=by
 have hl:(P++(A++(B++S))).length=P.length+(A.length+(B.length+S.length)):=by simp only [List.length_append]
 obtain ⟨a,ha⟩:∃a,a=P.length:=⟨_,rfl⟩
 obtain ⟨m,hm⟩:∃m,m=P.length+A.length:=⟨_,rfl⟩
 obtain ⟨b,hb⟩:∃b,b=m+B.length:=⟨_,rfl⟩
 obtain ⟨n,hn⟩:∃n,n=(P++(A++(B++S))).length:=⟨_,rfl⟩
 rw [←hm,←hb,←ha]
 obtain ⟨s,s1,s2,s3,s4,c1,c2,r1⟩:=TA (T:=fe d) (k:=b) (l:=P++(A++(B++S))) (a:=a) (m:=m) (b:=b) (by omega) (by omega) (by omega) hs (Nat.le_refl _)
 obtain ⟨mid,hmid⟩:∃mid,mid=(a+b) / 2:=⟨_,rfl⟩
 rw [←hmid] at s3 s4 c1 c2 r1
 obtain ⟨X1,X2,rfl,Qs⟩:∃A1 A2,A=A1++A2∧A1.length=s - a:=⟨A.take (s - a),A.drop (s - a),(List.take_append_drop _ _).symm,by simp;omega⟩
 obtain ⟨Y1,Y2,rfl,hY1⟩:∃A1 A2,B=A1++A2∧A1.length=mid - s:=⟨B.take (mid - s),B.drop (mid - s),(List.take_append_drop _ _).symm,by simp;omega⟩
 have LV:(X1++X2).length=X1.length+X2.length:=List.length_append
 have LW:(Y1++Y2).length=Y1.length+Y2.length:=List.length_append
 simp only [LV,LW] at hl hm hb V6 hA hB
 obtain ⟨t1,t2,t3⟩:=mX sA
 obtain ⟨u1,u2,u3⟩:=mX sB
 have el:P++((X1++X2)++((Y1++Y2)++S))=(P++X1)++(X2++(Y1++(Y2++S))):=by simp
 have qM:P++((X1++X2)++((Y1++Y2)++S))=P++(X1++((X2++Y1)++(Y2++S))):=by simp
 have q1:=wP (P:=P) (X1:=X1) (M:=X2++Y1) (Y2:=Y2) (S:=S) t1 u2 (by
  rcases c1 with h|h|h
  · exact .inl (List.length_eq_zero_iff.1 (by omega))
  · exact .inr (.inl (List.length_eq_zero_iff.1 (by omega)))
  · refine .inr (.inr ?_)
    rw [qM] at h
    have z1:P.length+X1.length+(X2++Y1).length=mid+m - s:=by simp only [List.length_append];omega
    have z2:P.length+X1.length - 1=s - 1:=by omega
    rw [z1,z2]
    exact h)
 have q2:=wQ (P:=P++X1) (X2:=X2) (Y1:=Y1) (S:=Y2++S) t2 u1 (by
  rcases c2 with h|h|h
  · exact .inl (List.length_eq_zero_iff.1 (by omega))
  · exact .inr (.inl (List.length_eq_zero_iff.1 (by omega)))
  · refine .inr (.inr ?_)
    rw [el] at h
    have z1:(P++X1).length+X2.length+Y1.length - 1=mid+m - 1 - s:=by simp only [List.length_append];omega
    have z2:(P++X1).length=s:=by simp only [List.length_append];omega
    rw [z1,z2]
    exact h)
 have ml:=rS sA sB q1 q2
 have Wk:(P++X1).length=s:=by simp only [List.length_append];omega
 obtain ⟨kT,MK,r2⟩:=TB (T:=fe d) (k:=b) (n:=n) (a:=a) (b:=b) (mid:=mid) (p:=(mid+m - 1:Nat)) (nn:=mid+m) (s:=s) (m:=m) (e:=m+Y1.length) (Q:=P++X1) (X2:=X2) (Y1:=Y1) (R:=Y2++S) (by rw [←el,hn]) (by omega) Wk (by omega) rfl (by omega)
 have BR:(P++X1)++(Y1++(X2++(Y2++S)))=P++(X1++(Y1++(X2++(Y2++S)))):=by simp
 rw [BR] at MK
 obtain ⟨st3,ML,r3⟩:=TC (d:=d) (k:=b) (R:=X2++(Y2++S)) MK (by rw [hn];simp only [List.length_append];omega) (by omega) ha.symm (by omega) (by omega) t1 u1 (by omega)
 have Vu:P++(ss kS (X1++Y1)++(X2++(Y2++S)))=(P++ss kS (X1++Y1))++(X2++(Y2++S)):=by simp
 rw [Vu] at ML
 obtain ⟨st4,MM,r4⟩:=TD (d:=d) (k:=b) (R:=S) ML (by rw [hn];simp only [List.length_append,dm];omega) (by omega) (by simp only [List.length_append,dm];omega) (by omega) (by omega) t2 u2 (by omega)
 have fin:(P++ss kS (X1++Y1))++(ss kS (X2++Y2)++S)=P++(ss kS ((X1++X2)++(Y1++Y2))++S):=by rw [←ml];simp
 rw [fin] at MM
 rw [←hn,el] at r1
 have run:=Di Lw r1 (Di Lx r2 (Di Ly r3 r4))
 rw [←el] at run
 rw [←hn]
 have jt:(P++(ss kS ((X1++X2)++(Y1++Y2))++S)).length=(P++((X1++X2)++((Y1++Y2)++S))).length:=by simp only [List.length_append,dm];omega
 exact Ou (En hd) run MM (iw _) (by rw [cM,cM,jt])
theorem wB:∀d,sD d
 |0,P,A,B,S,h,hA,hB,_,_,_=>by omega
 |d+1,P,A,B,S,h,hA,hB,sA,sB,hs=>by
  by_cases h1:A.length=1
  · obtain ⟨x,rfl⟩:=List.length_eq_one_iff.1 h1
    exact K6 (wB d) hB sB hs
  · by_cases h2:B.length=1
    · obtain ⟨y,rfl⟩:=List.length_eq_one_iff.1 h2
      exact K7 (wB d) (by omega) sA hs
    · exact K5 (wB d) h (by omega) (by omega) sA sB hs
end Go.Proofs.YtibbgjafjhcemaaDoor.Cul
namespace Go.Proofs.YtibbgjafjhcemaaDoor.Cul
open Go Go.RowKit
noncomputable def M3:List MA→Option (MR×List PV):=pz (fun x:List aj×Nat×Nat=>(x.2.1≤x.2.2∧x.2.2≤x.1.length)∧x.1.length<2^60) (fun x=>[.g (aq x.1) 0 3 x.1.length, .p (iv x.2.1), .p (iv x.2.2), .p aX]) (fun x=>(.pv (.an []),aq (CQ kS x.1 x.2.1 x.2.2)))
noncomputable def v7 (D:Nat):Cl:=oD [] [(79,M3),(80,fe D)] []
theorem zoA (D k n:Nat) (N z a b I:Int) (cs aZ:List PV):ak MD (v7 D) k 62 0 ⟨[(0, .bs gk 0 3 n),(1, .pv (iv N)),(2, .pv aX),(6, .pv (iv z)),(7, .pv (iv a)),(8, .pv (iv b))],[(gk,cs)],[],[]⟩ [.c true, .m (.pv (.an [])) aZ, .i 22 I]=
 some ((Xt.normal,St.mk [(0,AV.bs 1000000 0 3 n),(1,AV.pv (iv N)),(2,AV.pv (PV.fn 42 [PV.el [PV.fn 40 []]])),(6,AV.pv (iv z)),(7,AV.pv (iv b)),(8,AV.pv (iv I))] [(1000000,aZ)] [] []),[],[decide (b≤N)=true,cC (v7 D) 79 [MA.g cs 0 3 n,MA.p (iv a),MA.p (iv b),MA.p (PV.fn 42 [PV.el [PV.fn 40 []]])] (MR.pv (PV.an [])) aZ,IntKind.i64.wrap (b+z)=I]):=by kernel_rfl
theorem zoB (D k n:Nat) (N z a b:Int) (cs:List PV):ak MD (v7 D) k 62 0 ⟨[(0, .bs gk 0 3 n),(1, .pv (iv N)),(2, .pv aX),(6, .pv (iv z)),(7, .pv (iv a)),(8, .pv (iv b))],[(gk,cs)],[],[]⟩ [.c false]=
 some ((Xt.exit 0,St.mk [(0,AV.bs 1000000 0 3 n),(1,AV.pv (iv N)),(2,AV.pv (PV.fn 42 [PV.el [PV.fn 40 []]])),(6,AV.pv (iv z)),(7,AV.pv (iv a)),(8,AV.pv (iv b)),(13,AV.pv (bv false))] [(1000000,cs)] [] []),[],[decide (b≤N)=false]):=by kernel_rfl
theorem zoC (D k n:Nat) (N z a b m w I:Int) (cs aZ:List PV):ak MD (v7 D) k 62 2 ⟨[(0, .bs gk 0 3 n),(1, .pv (iv N)),(2, .pv aX),(6, .pv (iv z)),(7, .pv (iv a)),(8, .pv (iv b))],[(gk,cs)],[],[]⟩ [.c true, .i 40 m, .m (.pv (.an [])) aZ, .i 47 w, .i 48 I]=
 some ((Xt.normal,St.mk [(0,AV.bs 1000000 0 3 n),(1,AV.pv (iv N)),(2,AV.pv (PV.fn 42 [PV.el [PV.fn 40 []]])),(6,AV.pv (iv z)),(7,AV.pv (iv b)),(8,AV.pv (iv I))] [(1000000,aZ)] [] []),[],[decide (b≤N)=true,IntKind.i64.wrap (a+z)=m,cC (v7 D) 80 [MA.g cs 0 3 n,MA.p (iv a),MA.p (iv m),MA.p (iv b),MA.p (PV.fn 42 [PV.el [PV.fn 40 []]])] (MR.pv (PV.an [])) aZ,IntKind.i64.wrap ((2:Int)* z)=w,IntKind.i64.wrap (b+w)=I]):=by kernel_rfl
theorem zoD (D k n:Nat) (N z a b:Int) (cs:List PV):ak MD (v7 D) k 62 2 ⟨[(0, .bs gk 0 3 n),(1, .pv (iv N)),(2, .pv aX),(6, .pv (iv z)),(7, .pv (iv a)),(8, .pv (iv b))],[(gk,cs)],[],[]⟩ [.c false]=
 some ((Xt.exit 4,St.mk [(0,AV.bs 1000000 0 3 n),(1,AV.pv (iv N)),(2,AV.pv (PV.fn 42 [PV.el [PV.fn 40 []]])),(6,AV.pv (iv z)),(7,AV.pv (iv a)),(8,AV.pv (iv b)),(35,AV.pv (bv false))] [(1000000,cs)] [] []),[],[decide (b≤N)=false]):=by kernel_rfl
theorem zoE (D k n:Nat) (N z a b m w I:Int) (cs aZ aK:List PV):ak MD (v7 D) k 62 1 ⟨[(0, .bs gk 0 3 n),(1, .pv (iv N)),(2, .pv aX),(6, .pv (iv z))],[(gk,cs)],[],[]⟩ [.c true, .i 32 w, .l (.exit 4) ⟨[(0, .bs gk 0 3 n),(1, .pv (iv N)),(2, .pv aX),(6, .pv (iv z)),(7, .pv (iv a)),(8, .pv (iv b)),(35, .pv (bv false))],[(gk,aZ)],[],[]⟩, .i 51 m, .c true, .m (.pv (.an [])) aK, .i 62 I]=
 some ((Xt.normal,St.mk [(0,AV.bs 1000000 0 3 n),(1,AV.pv (iv N)),(2,AV.pv (PV.fn 42 [PV.el [PV.fn 40 []]])),(6,AV.pv (iv I))] [(1000000,aK)] [] []),[],[decide (z<N)=true,IntKind.i64.wrap ((2:Int)* z)=w,aN MD (v7 D) k (62:Nat) (2:Nat) (St.mk [(0,AV.bs 1000000 0 3 n),(1,AV.pv (iv N)),(2,AV.pv (PV.fn 42 [PV.el [PV.fn 40 []]])),(6,AV.pv (iv z)),(7,AV.pv (iv (0:Int))),(8,AV.pv (iv w))] [(1000000,cs)] [] []) (Xt.exit 4) (St.mk [(0,AV.bs 1000000 0 3 n),(1,AV.pv (iv N)),(2,AV.pv (PV.fn 42 [PV.el [PV.fn 40 []]])),(6,AV.pv (iv z)),(7,AV.pv (iv a)),(8,AV.pv (iv b)),(35,AV.pv (bv false))] [(1000000,aZ)] [] []),IntKind.i64.wrap (a+z)=m,decide (m<N)=true,cC (v7 D) 80 [MA.g aZ 0 3 n,MA.p (iv a),MA.p (iv m),MA.p (iv N),MA.p (PV.fn 42 [PV.el [PV.fn 40 []]])] (MR.pv (PV.an [])) aK,IntKind.i64.wrap (z* (2:Int))=I]):=by kernel_rfl
theorem zoF (D k n:Nat) (N z a b m w I:Int) (cs aZ:List PV):ak MD (v7 D) k 62 1 ⟨[(0, .bs gk 0 3 n),(1, .pv (iv N)),(2, .pv aX),(6, .pv (iv z))],[(gk,cs)],[],[]⟩ [.c true, .i 32 w, .l (.exit 4) ⟨[(0, .bs gk 0 3 n),(1, .pv (iv N)),(2, .pv aX),(6, .pv (iv z)),(7, .pv (iv a)),(8, .pv (iv b)),(35, .pv (bv false))],[(gk,aZ)],[],[]⟩, .i 51 m, .c false, .i 62 I]=
 some ((Xt.normal,St.mk [(0,AV.bs 1000000 0 3 n),(1,AV.pv (iv N)),(2,AV.pv (PV.fn 42 [PV.el [PV.fn 40 []]])),(6,AV.pv (iv I))] [(1000000,aZ)] [] []),[],[decide (z<N)=true,IntKind.i64.wrap ((2:Int)* z)=w,aN MD (v7 D) k (62:Nat) (2:Nat) (St.mk [(0,AV.bs 1000000 0 3 n),(1,AV.pv (iv N)),(2,AV.pv (PV.fn 42 [PV.el [PV.fn 40 []]])),(6,AV.pv (iv z)),(7,AV.pv (iv (0:Int))),(8,AV.pv (iv w))] [(1000000,cs)] [] []) (Xt.exit 4) (St.mk [(0,AV.bs 1000000 0 3 n),(1,AV.pv (iv N)),(2,AV.pv (PV.fn 42 [PV.el [PV.fn 40 []]])),(6,AV.pv (iv z)),(7,AV.pv (iv a)),(8,AV.pv (iv b)),(35,AV.pv (bv false))] [(1000000,aZ)] [] []),IntKind.i64.wrap (a+z)=m,decide (m<N)=false,IntKind.i64.wrap (z* (2:Int))=I]):=by kernel_rfl
theorem zoG (D k n:Nat) (N z:Int) (cs:List PV):ak MD (v7 D) k 62 1 ⟨[(0, .bs gk 0 3 n),(1, .pv (iv N)),(2, .pv aX),(6, .pv (iv z))],[(gk,cs)],[],[]⟩ [.c false]=
 some ((Xt.exit 2,St.mk [(0,AV.bs 1000000 0 3 n),(1,AV.pv (iv N)),(2,AV.pv (PV.fn 42 [PV.el [PV.fn 40 []]])),(6,AV.pv (iv z)),(30,AV.pv (bv false))] [(1000000,cs)] [] []),[],[decide (z<N)=false]):=by kernel_rfl
theorem zoH (D k n:Nat) (N z a b:Int) (cs aZ aK qL:List PV):hO MD (v7 D) k 62 [.g cs 0 3 n, .p (iv N), .p aX] [.l (.exit 0) ⟨[(0, .bs gk 0 3 n),(1, .pv (iv N)),(2, .pv aX),(6, .pv (iv 20)),(7, .pv (iv a)),(8, .pv (iv b)),(13, .pv (bv false))],[(gk,aZ)],[],[]⟩, .m (.pv (.an [])) aK, .l (.exit 2) ⟨[(0, .bs gk 0 3 n),(1, .pv (iv N)),(2, .pv aX),(6, .pv (iv z)),(30, .pv (bv false))],[(gk,qL)],[],[]⟩]=
 some ((MR.pv (PV.an []),qL),[qL.all bS=true,qL.length=cs.length,aN MD (v7 D) k (62:Nat) (0:Nat) (St.mk [(0,AV.bs 1000000 0 3 n),(1,AV.pv (iv N)),(2,AV.pv (PV.fn 42 [PV.el [PV.fn 40 []]])),(6,AV.pv (iv (20:Int))),(7,AV.pv (iv (0:Int))),(8,AV.pv (iv (20:Int)))] [(1000000,cs)] [] []) (Xt.exit 0) (St.mk [(0,AV.bs 1000000 0 3 n),(1,AV.pv (iv N)),(2,AV.pv (PV.fn 42 [PV.el [PV.fn 40 []]])),(6,AV.pv (iv (20:Int))),(7,AV.pv (iv a)),(8,AV.pv (iv b)),(13,AV.pv (bv false))] [(1000000,aZ)] [] []),cC (v7 D) 79 [MA.g aZ 0 3 n,MA.p (iv a),MA.p (iv N),MA.p (PV.fn 42 [PV.el [PV.fn 40 []]])] (MR.pv (PV.an [])) aK,aN MD (v7 D) k (62:Nat) (1:Nat) (St.mk [(0,AV.bs 1000000 0 3 n),(1,AV.pv (iv N)),(2,AV.pv (PV.fn 42 [PV.el [PV.fn 40 []]])),(6,AV.pv (iv (20:Int)))] [(1000000,aK)] [] []) (Xt.exit 2) (St.mk [(0,AV.bs 1000000 0 3 n),(1,AV.pv (iv N)),(2,AV.pv (PV.fn 42 [PV.el [PV.fn 40 []]])),(6,AV.pv (iv z)),(30,AV.pv (bv false))] [(1000000,qL)] [] [])]):=by kernel_rfl
end Go.Proofs.YtibbgjafjhcemaaDoor.Cul
namespace Go.Proofs.YtibbgjafjhcemaaDoor.Cul
open Go Go.RowKit
theorem M4:∀ms r cs',M3 ms=some (r,cs')→dy P0 79 ms r cs':=kH fun x h=>by
 obtain ⟨l,a,b⟩:=x
 obtain ⟨⟨h1,h2⟩,h3⟩:=h
 simp only at h1 h2 h3 ⊢
 obtain ⟨P,X,S',rfl,e1,e2⟩:=nN (l:=l) (a:=a) (b:=b) h1 h2
 have key:=Af P X S' h3
 have e6:=wj kS (P:=P) (L:=X) (S:=S')
 have em:P.length+X.length=b:=by omega
 rw [←e6,em,e1] at key
 exact key
theorem FG {P X S:List aj} (hs:(P++(X++S)).length<2^60):
  M3 [.g (aq (P++(X++S))) 0 3 (P++(X++S)).length, .p (iv P.length), .p (iv (P.length+X.length:Nat)), .p aX]=some (.pv (.an []),aq (P++(ss kS X++S))):=by
 have:=kG (pre:=fun x:List aj×Nat×Nat=>(x.2.1≤x.2.2∧x.2.2≤x.1.length)∧x.1.length<2^60) (a:=(P++(X++S),P.length,P.length+X.length)) (enc:=fun x:List aj×Nat×Nat=>[.g (aq x.1) 0 3 x.1.length, .p (iv x.2.1), .p (iv x.2.2), .p aX]) (g:=fun x=>(.pv (.an []),aq (CQ kS x.1 x.2.1 x.2.2))) (fun a b e=>by
  obtain ⟨a1,a2,a3⟩:=a;obtain ⟨b1,b2,b3⟩:=b
  simp only [List.cons.injEq,and_true,MA.g.injEq,MA.p.injEq] at e
  obtain ⟨⟨e1,_⟩,e2,e3⟩:=e
  have e2:=di e2
  have e3:=di e3
  obtain rfl:a2=b2:=by omega
  obtain rfl:a3=b3:=by omega
  rw [lB e1]) ⟨⟨by simp only;omega,by simp only [List.length_append];omega⟩,hs⟩
 rw [wj] at this
 exact this
theorem PI (D:Nat):aP MD.P (v7 D):=j3 aL (gm M4 (gm (CU (wB D)) jf))
theorem OU (l:List aj):f0 (ss kS l)=f0 l:=by simp [pE,f0,f1]
theorem OV (l:List aj):f1 (ss kS l)=f1 l:=by simp [pE,f0,f1]
theorem wk (P X S:List aj):ss kS (P++(ss kS X++S))=ss kS (P++(X++S)):=by
 have h0:=OU X
 have h1:=OV X
 simp only [pE,f0,f1,List.filter_append] at h0 h1 ⊢
 rw [h0,h1]
def FB (z:Nat) (Bs:List (List aj)):Prop:=∀X∈Bs,X.length=z∧ee X
theorem FB.len {z:Nat}:∀{Bs:List (List aj)},FB z Bs→Bs.flatten.length=Bs.length* z
 |[],_=>by simp
 |X::Bs,h=>by
  have ih:=FB.len (z:=z) (Bs:=Bs) fun Y hY=>h Y (List.mem_cons_of_mem _ hY)
  have hx:=(h X (List.mem_cons_self ..)).1
  rw [List.flatten_cons,List.length_append,ih,List.length_cons,Nat.succ_mul,hx];omega
theorem FB.snoc {z:Nat} {Bs:List (List aj)} {X:List aj} (h:FB z Bs) (hX:X.length=z) (sX:ee X):FB z (Bs++[X]):=by
 intro Y hY
 rcases List.mem_append.1 hY with hY|hY
 · exact h Y hY
 · rw [List.mem_singleton.1 hY];exact ⟨hX,sX⟩
abbrev Ov (n:Nat) (N z a b:Int) (cs:List PV):St:=⟨[(0, .bs gk 0 3 n),(1, .pv (iv N)),(2, .pv aX),(6, .pv (iv z)),(7, .pv (iv a)),(8, .pv (iv b))],[(gk,cs)],[],[]⟩
abbrev YR (n:Nat) (N z a b:Int) (cs:List PV):St:=⟨[(0, .bs gk 0 3 n),(1, .pv (iv N)),(2, .pv aX),(6, .pv (iv z)),(7, .pv (iv a)),(8, .pv (iv b)),(13, .pv (bv false))],[(gk,cs)],[],[]⟩
theorem CV {D k n z:Nat} {L0:List aj} (hn:n<2^60) (hz:0<z) (B6:z<2^60):∀(d:Nat) (Bs:List (List aj)) (R:List aj),FB z Bs→R.length≤d→(Bs.flatten++R).length=n→ss kS (Bs.flatten++R)=ss kS L0→
  ∃jk R',FB z jk∧R'.length<z∧(jk.flatten++R').length=n∧ss kS (jk.flatten++R')=ss kS L0∧
   aR (aI MD (v7 D) k 62 0) (d+1) (Ov n n z Bs.flatten.length (Bs.flatten.length+z:Nat) (aq (Bs.flatten++R)))=some (.exit 0,YR n n z jk.flatten.length (jk.flatten.length+z:Nat) (aq (jk.flatten++R')))
 |d,Bs,R,hB,hd,hl,he=>by
  have hl':Bs.flatten.length+R.length=n:=by rw [←hl,List.length_append]
  rcases Nat.lt_or_ge R.length z with h|h
  · refine ⟨Bs,R,hB,h,hl,he, ?_⟩
    refine bH (n:=1) (by omega) (aF ?_ (by simp))
    exact af (zoB D k n n z Bs.flatten.length (Bs.flatten.length+z:Nat) _) ⟨decide_eq_false (by omega),trivial⟩
  · match d with
    |0=>omega
    |d+1=>
     obtain ⟨X,R,rfl,hX⟩:∃X R',R=X++R'∧X.length=z:=⟨R.take z,R.drop z,(List.take_append_drop _ _).symm,by simp;omega⟩
     have hXR:(X++R).length=X.length+R.length:=List.length_append
     have ins:=FG (P:=Bs.flatten) (X:=X) (S:=R) (by omega)
     rw [hl,hX] at ins
     have e1:Bs.flatten++(ss kS X++R)=(Bs++[ss kS X]).flatten++R:=by simp
     obtain ⟨jk,R',g1,g2,g3,g4,g5⟩:=CV (D:=D) (k:=k) (L0:=L0) hn hz B6 d (Bs++[ss kS X]) R (hB.snoc (by rw [dm];exact hX) (wo X)) (by omega) (by rw [←e1];simp only [List.length_append,dm];omega) (by rw [←e1,wk];exact he)
     refine ⟨jk,R',g1,g2,g3,g4, ?_⟩
     have r:=af (zoA D k n n z Bs.flatten.length (Bs.flatten.length+z:Nat) (Bs.flatten.length+z+z:Nat) _ _) ⟨decide_eq_true (by omega),ins,bu (by omega) (by omega) (by omega),trivial⟩
     have e2:(Bs++[ss kS X]).flatten.length=Bs.flatten.length+z:=by simp [dm,hX]
     rw [←e1,e2] at g5
     exact aW r g5
abbrev Rk (n:Nat) (N z a b:Int) (cs:List PV):St:=⟨[(0, .bs gk 0 3 n),(1, .pv (iv N)),(2, .pv aX),(6, .pv (iv z)),(7, .pv (iv a)),(8, .pv (iv b)),(35, .pv (bv false))],[(gk,cs)],[],[]⟩
theorem CW {D k n z:Nat} {L0 T:List aj} (hn:n<2^60) (hD:n≤D) (hz:0<z) (B6:z<2^60) (hT:T.length<z) (sT:ee T):∀(d:Nat) (B2 Bs:List (List aj)),FB (2* z) B2→FB z Bs→Bs.length≤d→(B2.flatten++(Bs.flatten++T)).length=n→ss kS (B2.flatten++(Bs.flatten++T))=ss kS L0→
  ∃mZ jk,FB (2* z) mZ∧FB z jk∧jk.length≤1∧(mZ.flatten++(jk.flatten++T)).length=n∧ss kS (mZ.flatten++(jk.flatten++T))=ss kS L0∧
   aR (aI MD (v7 D) k 62 2) (d+1) (Ov n n z B2.flatten.length (B2.flatten.length+2* z:Nat) (aq (B2.flatten++(Bs.flatten++T))))=some (.exit 4,Rk n n z mZ.flatten.length (mZ.flatten.length+2* z:Nat) (aq (mZ.flatten++(jk.flatten++T))))
 |d,B2,Bs,Qo,hB,hd,hl,he=>by
  have hl':B2.flatten.length+(Bs.flatten.length+T.length)=n:=by rw [←hl];simp only [List.length_append]
  have rG:=hB.len
  have stop:Bs.length≤1→_:=fun h1=>(⟨B2,Bs,Qo,hB,h1,hl,he,by
   have h2:Bs.length* z≤1* z:=Nat.mul_le_mul_right _ h1
   refine bH (n:=1) (by omega) (aF ?_ (by simp))
   exact af (zoD D k n n z B2.flatten.length (B2.flatten.length+2* z:Nat) _) ⟨decide_eq_false (by omega),trivial⟩⟩:∃mZ jk,FB (2* z) mZ∧FB z jk∧jk.length≤1∧(mZ.flatten++(jk.flatten++T)).length=n∧ss kS (mZ.flatten++(jk.flatten++T))=ss kS L0∧
   aR (aI MD (v7 D) k 62 2) (d+1) (Ov n n z B2.flatten.length (B2.flatten.length+2* z:Nat) (aq (B2.flatten++(Bs.flatten++T))))=some (.exit 4,Rk n n z mZ.flatten.length (mZ.flatten.length+2* z:Nat) (aq (mZ.flatten++(jk.flatten++T)))))
  match Bs,d with
  |[],d=>exact stop (by simp)
  |[X],d=>exact stop (by simp)
  |X::Y::Bs,0=>simp at hd
  |X::Y::Bs,d+1=>
   obtain ⟨hX,sX⟩:=hB X (by simp)
   obtain ⟨hY,sY⟩:=hB Y (by simp)
   have V7:FB z Bs:=fun Z hZ=>hB Z (by simp [hZ])
   have e0:B2.flatten++((X::Y::Bs).flatten++T)=B2.flatten++(X++(Y++(Bs.flatten++T))):=by simp
   have hfl:(X::Y::Bs).flatten.length=X.length+(Y.length+Bs.flatten.length):=by simp
   have mg:=th (d:=D) (P:=B2.flatten) (A:=X) (B:=Y) (S:=Bs.flatten++T) (by omega) (by omega) sX sY (by omega) (by rw [←e0];omega)
   rw [←e0,hl,hX,hY] at mg
   have e1:B2.flatten++(ss kS (X++Y)++(Bs.flatten++T))=(B2++[ss kS (X++Y)]).flatten++(Bs.flatten++T):=by simp
   have Qt:(ss kS (X++Y)).length=2* z:=by rw [dm,List.length_append];omega
   have e3:B2.flatten++((X++Y)++(Bs.flatten++T))=B2.flatten++((X::Y::Bs).flatten++T):=by simp
   obtain ⟨mZ,jk,g1,g2,g3,g4,g5,g6⟩:=CW (D:=D) (k:=k) (L0:=L0) hn hD hz B6 hT sT d (B2++[ss kS (X++Y)]) Bs (Qo.snoc Qt (wo _)) V7 (by simp only [List.length_cons] at hd;omega) (by rw [←e1,←hl,e0];simp only [List.length_append,dm];omega) (by rw [←e1,wk,e3];exact he)
   refine ⟨mZ,jk,g1,g2,g3,g4,g5, ?_⟩
   have e4:B2.flatten.length+z+z=B2.flatten.length+2* z:=by omega
   rw [e4] at mg
   have r:=af (zoC D k n n z B2.flatten.length (B2.flatten.length+2* z:Nat) (B2.flatten.length+z:Nat) (2* z:Nat) (B2.flatten.length+2* z+2* z:Nat) _ _) ⟨decide_eq_true (by omega),bu (by omega) (by omega) (by omega),mg,bu (by omega) (by omega) (by omega),bu (by omega) (by omega) (by omega),trivial⟩
   have e2:(B2++[ss kS (X++Y)]).flatten.length=B2.flatten.length+2* z:=by simp only [List.flatten_append,List.length_append,List.flatten_cons,List.flatten_nil,List.append_nil,Qt]
   rw [←e1,e2] at g6
   exact aW r g6
abbrev Rj (n:Nat) (N z:Int) (cs:List PV):St:=⟨[(0, .bs gk 0 3 n),(1, .pv (iv N)),(2, .pv aX),(6, .pv (iv z))],[(gk,cs)],[],[]⟩
abbrev Ri (n:Nat) (N z:Int) (cs:List PV):St:=⟨[(0, .bs gk 0 3 n),(1, .pv (iv N)),(2, .pv aX),(6, .pv (iv z)),(30, .pv (bv false))],[(gk,cs)],[],[]⟩
theorem xy {D k n:Nat} {L0:List aj} (hn:n<2^60) (hD:n≤D) (hk:n+1≤k):∀(d z:Nat) (Bs:List (List aj)) (T:List aj),n≤z+d→0<z→z<2^62→FB z Bs→T.length<z→ee T→(Bs.flatten++T).length=n→ss kS (Bs.flatten++T)=ss kS L0→
  ∃z':Nat,aR (aI MD (v7 D) k 62 1) (d+1) (Rj n n z (aq (Bs.flatten++T)))=some (.exit 2,Ri n n z' (aq (ss kS L0)))
 |d,z,Bs,T,hd,hz,B6,hB,hT,sT,hl,he=>by
  have hl':Bs.flatten.length+T.length=n:=by rw [←hl,List.length_append]
  have rG:=hB.len
  rcases Nat.lt_or_ge z n with h|h
  · match d with
    |0=>omega
    |d+1=>
     have hBk:Bs.length≤n:=by
      have:Bs.length* 1≤Bs.length* z:=Nat.mul_le_mul_left _ hz
      omega
     obtain ⟨B2,B1,g1,g2,g3,g4,g5,g6⟩:=CW (D:=D) (k:=k) (n:=n) (z:=z) (L0:=L0) (T:=T) hn hD hz (by omega) hT sT Bs.length [] Bs (by intro X hX;simp at hX) hB (Nat.le_refl _) (by simpa using hl) (by simpa using he)
     simp only [List.flatten_nil,List.nil_append,List.length_nil,Nat.zero_add] at g6
     have g6:=bH (m:=k) (by omega) g6
     have gl:B2.flatten.length+(B1.flatten.length+T.length)=n:=by rw [←g4];simp only [List.length_append]
     have w1:IntKind.i64.wrap ((2:Int)* (z:Int))=((2* z:Nat):Int):=bu (by omega) (by omega) (by omega)
     have w2:IntKind.i64.wrap ((B2.flatten.length:Int)+(z:Int))=((B2.flatten.length+z:Nat):Int):=bu (by omega) (by omega) (by omega)
     have w3:IntKind.i64.wrap ((z:Int)* 2)=((2* z:Nat):Int):=bu (by omega) (by omega) (by omega)
     have fin:∀T':List aj,B2.flatten++(B1.flatten++T)=B2.flatten++T'→ee T'→T'.length<2* z→B2.flatten.length+z≥n→∃z':Nat,aR (aI MD (v7 D) k 62 1) (d+1+1) (Rj n n z (aq (Bs.flatten++T)))=some (.exit 2,Ri n n z' (aq (ss kS L0))):=by
      intro T' e CB Wm hm
      rw [e] at g4 g5 g6
      obtain ⟨z',dx⟩:=xy (D:=D) (k:=k) (L0:=L0) hn hD hk d (2* z) B2 T' (by omega) (by omega) (by omega) g1 Wm CB g4 g5
      exact ⟨z',aW (af (zoF D k n n z B2.flatten.length (B2.flatten.length+2* z:Nat) (B2.flatten.length+z:Nat) (2* z:Nat) (2* z:Nat) _ _) ⟨decide_eq_true (by omega),w1,g6,w2,decide_eq_false (by omega),w3,trivial⟩) dx⟩
     match B1,g2,g3 with
     |[],_,_=>exact fin T (by simp) sT (by omega) (by simp only [List.flatten_nil,List.length_nil] at gl;omega)
     |X::Y::_,_,g3=>simp at g3
     |[X],g2,_=>
      obtain ⟨hX,sX⟩:=g2 X (by simp)
      have eX:[X].flatten=X:=by simp
      rw [eX] at g4 g5 g6 gl fin
      rcases l9 T with rfl|Wn
      · exact fin X (by simp) sX (by omega) (by simp only [List.length_nil] at gl;omega)
      · have mg:=th (d:=D) (P:=B2.flatten) (A:=X) (B:=T) (S:=[]) (by omega) Wn sX sT (by omega) (by simp only [List.append_nil,List.length_append];omega)
        simp only [List.append_nil] at mg
        rw [g4,hX] at mg
        have e4:B2.flatten.length+z+T.length=n:=by omega
        rw [e4] at mg
        have e5:ss kS (B2.flatten++ss kS (X++T))=ss kS L0:=by
         have:=wk B2.flatten (X++T) []
         simp only [List.append_nil] at this
         rw [this];exact g5
        obtain ⟨z',dx⟩:=xy (D:=D) (k:=k) (L0:=L0) hn hD hk d (2* z) B2 (ss kS (X++T)) (by omega) (by omega) (by omega) g1 (by rw [dm,List.length_append];omega) (wo _) (by rw [List.length_append,dm,List.length_append];omega) e5
        exact ⟨z',aW (af (zoE D k n n z B2.flatten.length (B2.flatten.length+2* z:Nat) (B2.flatten.length+z:Nat) (2* z:Nat) (2* z:Nat) _ _ _) ⟨decide_eq_true (by omega),w1,g6,w2,decide_eq_true (by omega),mg,w3,trivial⟩) dx⟩
  · refine ⟨z,bH (n:=1) (by omega) (aF ?_ (by simp))⟩
    have es:Bs.flatten++T=ss kS L0:=by
     rw [←he]
     match Bs with
     |[]=>simp only [List.flatten_nil,List.nil_append];exact (ja sT).symm
     |X::Bs=>
      obtain ⟨hX,sX⟩:=hB X (by simp)
      simp only [List.flatten_cons,List.length_append] at hl'
      have h1:Bs.flatten=[]:=List.length_eq_zero_iff.1 (by omega)
      have h2:T=[]:=List.length_eq_zero_iff.1 (by omega)
      subst h2
      simp only [List.flatten_cons,h1,List.append_nil]
      exact (ja sX).symm
    rw [es]
    exact af (zoG D k n n z _) ⟨decide_eq_false (by omega),trivial⟩
theorem GV (l:List aj) (hs:l.length<2^60):dy P0 62 [.g (aq l) 0 3 l.length, .p (iv l.length), .p aX] (.pv (.an [])) (aq (ss kS l)):=by
 obtain ⟨n,hn⟩:∃n,n=l.length:=⟨_,rfl⟩
 rw [←hn] at hs ⊢
 obtain ⟨Bs,R,g1,g2,g3,g4,g5⟩:=CV (D:=n) (k:=n+1) (n:=n) (z:=20) (L0:=l) hs (by omega) (by omega) n [] l (by intro X hX;simp at hX) (by omega) (by simpa using hn.symm) (by simp)
 simp only [List.flatten_nil,List.nil_append,List.length_nil,Nat.zero_add] at g5
 have gl:Bs.flatten.length+R.length=n:=by rw [←g3,List.length_append]
 have ins:=FG (P:=Bs.flatten) (X:=R) (S:=[]) (by simp only [List.append_nil];omega)
 simp only [List.append_nil] at ins
 rw [g3,gl] at ins
 have e5:ss kS (Bs.flatten++ss kS R)=ss kS l:=by
  have:=wk Bs.flatten R []
  simp only [List.append_nil] at this
  rw [this];exact g4
 obtain ⟨z',dx⟩:=xy (D:=n) (k:=n+1) (n:=n) (L0:=l) hs (Nat.le_refl _) (Nat.le_refl _) n 20 Bs (ss kS R) (by omega) (by omega) (by omega) g1 (by rw [dm];exact g2) (wo _) (by rw [List.length_append,dm];exact gl) e5
 exact eu ah (PI n) (by rfl) (zoH n (n+1) n n z' Bs.flatten.length (Bs.flatten.length+20:Nat) (aq l) (aq (Bs.flatten++R)) (aq (Bs.flatten++ss kS R)) (aq (ss kS l)))
  ⟨iw _,by rw [cM,cM,dm],g5,ins,dx,trivial⟩
end Go.Proofs.YtibbgjafjhcemaaDoor.Cul
namespace Go.Proofs.YtibbgjafjhcemaaDoor.Cul
open Go Go.RowKit
def aU:PV:= .lit (.slice none 0 0)
noncomputable def stM:List MA→Option (MR×List PV):=pz (fun l:List aj=>l.length<2^60) (fun l=>[.g (aq l) 0 3 l.length, .p (iv l.length), .p aX]) (fun l=>(.pv (.an []),aq (ss kS l)))
noncomputable def v8:Cl:=oD [] [(62,stM)] []
noncomputable def QV:List PV→Option RV:=cu (fun _:Unit=>True) (fun _=>[aU,iv 0,iv 0,aX]) (fun _=>one (.an []))
noncomputable def v9:Cl:=bQ [(79,QV)]
noncomputable def Rg:List PV→Option RV:=cu (fun _:Unit=>True) (fun _=>[aU,iv 0,aX]) (fun _=>one (.an []))
noncomputable def v10:Cl:=bQ [(62,Rg)]
noncomputable def D7:List PV→Option RV:=cu (fun _:aj=>True) (fun s=>[.ag s.cells]) (fun s=>one (.an [.ag s.over.1.cells,iv s.over.2]))
noncomputable def DG:List PV→Option RV:=oC (fun x y=>(y - x)%24)
noncomputable def Oc:List MA→Option (MR×List PV):=pz (fun l:List aj=>l.length<2^60) (fun l=>[.g (aq l) 0 3 l.length, .p aX]) (fun l=>(.pv (.an []),aq (ss kS l)))
noncomputable def Rf:List PV→Option RV:=cu (fun _:Unit=>True) (fun _=>[aU,aX]) (fun _=>one (.an []))
noncomputable def v11:Cl:=oD [(18,D7),(9,DG)] [(41,Oc)] []
noncomputable def OJ:Cl:=bQ [(18,D7),(9,DG),(41,Rf)]
noncomputable def bT:Cl:=bQ [(19,D7),(10,DG)]
theorem zpA (k n:Nat) (cs aZ:List PV):hO MD v8 k 41 [.g cs 0 3 n, .p aX] [.m (.pv (.an [])) aZ]=
 some ((MR.pv (PV.an []),aZ),[aZ.all bS=true,aZ.length=cs.length,cC v8 62 [MA.g cs 0 3 n,MA.p (iv (↑n:Int)),MA.p (PV.fn 42 [PV.el [PV.fn 40 []]])] (MR.pv (PV.an [])) aZ]):=by kernel_rfl
theorem zpB (k:Nat):ay MD (bQ []) k 79 [aU,iv 0,iv 0,aX] [.u 1, .c false]=
 some (RV.mk (PV.an []) none,[1≤k,false=false]):=by kernel_rfl
theorem zpC (k:Nat):ay MD v9 k 62 [aU,iv 0,aX] [.u 1, .c false, .r (one (.an [])), .u 1, .c false]=
 some (RV.mk (PV.an []) none,[1≤k,false=false,aa v9 79 [PV.lit (Value.slice none 0 0),iv (0:Int),iv (0:Int),PV.fn 42 [PV.el [PV.fn 40 []]]] (RV.mk (PV.an []) none),1≤k,false=false]):=by kernel_rfl
theorem zpD (k:Nat):ay MD v10 k 41 [aU,aX] [.r (one (.an []))]=
 some (RV.mk (PV.an []) none,[aa v10 62 [PV.lit (Value.slice none 0 0),iv (0:Int),PV.fn 42 [PV.el [PV.fn 40 []]]] (RV.mk (PV.an []) none)]):=by kernel_rfl
theorem zpE (k n i m:Nat) (g:Int) (ds cs aK:List PV) (x y:aj) (e j I:Int):ak MD v11 k 23 0 ⟨[(1, .pv (iv g)),(6, .pv aU),(15, .pv (.sl 3 n ds)),(16, .pv (iv n)),(17, .pv (iv i))],[],[],[]⟩ [.c true, .a 19 x.cells, .r (one (.an [.ag y.cells,iv e])), .c false, .c true, .r (one (iv j)), .c false, .i 41 I]=
 some ((Xt.normal,St.mk [(1,AV.pv (iv g)),(6,AV.pv (PV.sl 3 1 [iv y.h,iv y.v,iv j])),(15,AV.pv (PV.sl 3 n ds)),(16,AV.pv (iv (↑n:Int))),(17,AV.pv (iv I))] [] [(Pl.s 6,3)] []),[],[decide ((↑i:Int)<(↑n:Int))=true,az ds 3 (↑i:Int) n x.cells,aa v11 18 [PV.ag x.cells] (RV.mk (PV.an [PV.ag y.cells,iv e]) none),(e !=(0:Int))=false,decide (y.h>(0:Int))=true,aa v11 9 [iv x.i,iv g] (RV.mk (iv j) none),24≤140737488355328∧1≤140737488355328,3=3∧0=0,decide (((1:Nat),splice (bh (PV.ag ((fun x=>iv (0:Int)::x) ((fun x=>iv (0:Int)::x) ((fun x=>iv (0:Int)::x) [])))).cells (1:Nat)) ((0:Nat)* (fun x=>x.size) MD.P.types[(36:Nat)]) (PV.ag (List.take ((fun x=>x.size) MD.P.types[(36:Nat)]) (List.drop (0:Nat) (splice (splice (PV.ag ((fun x=>iv (0:Int)::x) ((fun x=>iv (0:Int)::x) ((fun x=>iv (0:Int)::x) [])))).cells (0:Nat) (PV.ag y.cells).cells) ((0:Nat)+ #[Field.mk "H" (3:Nat) (0:Nat) false "" "" (0:Nat),Field.mk "V" (3:Nat) (1:Nat) false "" "" (8:Nat),Field.mk "Index" (3:Nat) (2:Nat) false "" "" (16:Nat)][(2:Nat)].offset) (one (iv j)).v.cells)))).cells).fst=(0:Nat))=false,IntKind.i64.wrap ((↑i:Int)+(1:Int))=I]):=by kernel_rfl
theorem zpF (k n i m:Nat) (g:Int) (ds cs aK:List PV) (x y:aj) (e j I:Int):ak MD v11 k 23 0 ⟨[(1, .pv (iv g)),(6, .pv aU),(15, .pv (.sl 3 n ds)),(16, .pv (iv n)),(17, .pv (iv i))],[],[],[]⟩ [.c true, .a 19 x.cells, .r (one (.an [.ag y.cells,iv e])), .c false, .c false, .c false, .i 41 I]=
 some ((Xt.normal,St.mk [(1,AV.pv (iv g)),(6,AV.pv (PV.sl 3 1 y.cells)),(15,AV.pv (PV.sl 3 n ds)),(16,AV.pv (iv (↑n:Int))),(17,AV.pv (iv I))] [] [(Pl.s 6,3)] []),[],[decide ((↑i:Int)<(↑n:Int))=true,az ds 3 (↑i:Int) n x.cells,aa v11 18 [PV.ag x.cells] (RV.mk (PV.an [PV.ag y.cells,iv e]) none),(e !=(0:Int))=false,decide (y.h>(0:Int))=false,24≤140737488355328∧1≤140737488355328,3=3∧0=0,decide (((1:Nat),splice (bh (PV.ag ((fun x=>iv (0:Int)::x) ((fun x=>iv (0:Int)::x) ((fun x=>iv (0:Int)::x) [])))).cells (1:Nat)) ((0:Nat)* (fun x=>x.size) MD.P.types[(36:Nat)]) (PV.ag (List.take ((fun x=>x.size) MD.P.types[(36:Nat)]) (List.drop (0:Nat) (splice (PV.ag ((fun x=>iv (0:Int)::x) ((fun x=>iv (0:Int)::x) ((fun x=>iv (0:Int)::x) [])))).cells (0:Nat) (PV.ag y.cells).cells)))).cells).fst=(0:Nat))=false,IntKind.i64.wrap ((↑i:Int)+(1:Int))=I]):=by kernel_rfl
theorem zpG (k n i m:Nat) (g:Int) (ds cs aK:List PV) (x y:aj) (e j I:Int):ak MD v11 k 23 0 ⟨[(1, .pv (iv g)),(6, .pv (.sl 3 m cs)),(15, .pv (.sl 3 n ds)),(16, .pv (iv n)),(17, .pv (iv i))],[],[(.s 6,3)],[]⟩ [.c true, .a 19 x.cells, .r (one (.an [.ag y.cells,iv e])), .c false, .c true, .r (one (iv j)), .p (m+1) aK, .i 41 I]=
 some ((Xt.normal,St.mk [(1,AV.pv (iv g)),(6,AV.pv (PV.sl 3 (m+1) aK)),(15,AV.pv (PV.sl 3 n ds)),(16,AV.pv (iv (↑n:Int))),(17,AV.pv (iv I))] [] [(Pl.s 6,3)] []),[],[decide ((↑i:Int)<(↑n:Int))=true,az ds 3 (↑i:Int) n x.cells,aa v11 18 [PV.ag x.cells] (RV.mk (PV.an [PV.ag y.cells,iv e]) none),(e !=(0:Int))=false,decide (y.h>(0:Int))=true,aa v11 9 [iv x.i,iv g] (RV.mk (iv j) none),gA m 1 cs [iv y.h,iv y.v,iv j] 24 3 (m+1) aK,IntKind.i64.wrap ((↑i:Int)+(1:Int))=I]):=by kernel_rfl
theorem zpH (k n i m:Nat) (g:Int) (ds cs aK:List PV) (x y:aj) (e j I:Int):ak MD v11 k 23 0 ⟨[(1, .pv (iv g)),(6, .pv (.sl 3 m cs)),(15, .pv (.sl 3 n ds)),(16, .pv (iv n)),(17, .pv (iv i))],[],[(.s 6,3)],[]⟩ [.c true, .a 19 x.cells, .r (one (.an [.ag y.cells,iv e])), .c false, .c false, .p (m+1) aK, .i 41 I]=
 some ((Xt.normal,St.mk [(1,AV.pv (iv g)),(6,AV.pv (PV.sl 3 (m+1) aK)),(15,AV.pv (PV.sl 3 n ds)),(16,AV.pv (iv (↑n:Int))),(17,AV.pv (iv I))] [] [(Pl.s 6,3)] []),[],[decide ((↑i:Int)<(↑n:Int))=true,az ds 3 (↑i:Int) n x.cells,aa v11 18 [PV.ag x.cells] (RV.mk (PV.an [PV.ag y.cells,iv e]) none),(e !=(0:Int))=false,decide (y.h>(0:Int))=false,gA m 1 cs y.cells 24 3 (m+1) aK,IntKind.i64.wrap ((↑i:Int)+(1:Int))=I]):=by kernel_rfl
theorem zpI (k n i m:Nat) (g:Int) (ds cs aK:List PV) (x y:aj) (e j I:Int):ak MD v11 k 23 0 ⟨[(1, .pv (iv g)),(6, .pv aU),(15, .pv (.sl 3 n ds)),(16, .pv (iv n)),(17, .pv (iv i))],[],[],[]⟩ [.c true, .a 19 x.cells, .r (one (.an [.ag y.cells,iv e])), .c true]=
 some ((Xt.ret,St.mk [(4,AV.pv (PV.lit (Value.slice none 0 0))),(5,AV.pv (iv e))] [] [] []),[],[decide ((↑i:Int)<(↑n:Int))=true,az ds 3 (↑i:Int) n x.cells,aa v11 18 [PV.ag x.cells] (RV.mk (PV.an [PV.ag y.cells,iv e]) none),(e !=(0:Int))=true]):=by kernel_rfl
theorem zpJ (k n i m:Nat) (g:Int) (ds cs aK:List PV) (x y:aj) (e j I:Int):ak MD v11 k 23 0 ⟨[(1, .pv (iv g)),(6, .pv (.sl 3 m cs)),(15, .pv (.sl 3 n ds)),(16, .pv (iv n)),(17, .pv (iv i))],[],[(.s 6,3)],[]⟩ [.c true, .a 19 x.cells, .r (one (.an [.ag y.cells,iv e])), .c true]=
 some ((Xt.ret,St.mk [(4,AV.pv (PV.lit (Value.slice none 0 0))),(5,AV.pv (iv e))] [] [] []),[],[decide ((↑i:Int)<(↑n:Int))=true,az ds 3 (↑i:Int) n x.cells,aa v11 18 [PV.ag x.cells] (RV.mk (PV.an [PV.ag y.cells,iv e]) none),(e !=(0:Int))=true]):=by kernel_rfl
theorem zpK (k n i m:Nat) (g:Int) (ds cs aK:List PV) (x y:aj) (e j I:Int):ak MD v11 k 23 0 ⟨[(1, .pv (iv g)),(6, .pv aU),(15, .pv (.sl 3 n ds)),(16, .pv (iv n)),(17, .pv (iv i))],[],[],[]⟩ [.c false]=
 some ((Xt.exit 0,St.mk [(1,AV.pv (iv g)),(6,AV.pv (PV.lit (Value.slice none 0 0))),(15,AV.pv (PV.sl 3 n ds)),(16,AV.pv (iv (↑n:Int))),(17,AV.pv (iv (↑i:Int))),(18,AV.pv (bv false))] [] [] []),[],[decide ((↑i:Int)<(↑n:Int))=false]):=by kernel_rfl
theorem zpL (k n i m:Nat) (g:Int) (ds cs aK:List PV) (x y:aj) (e j I:Int):ak MD v11 k 23 0 ⟨[(1, .pv (iv g)),(6, .pv (.sl 3 m cs)),(15, .pv (.sl 3 n ds)),(16, .pv (iv n)),(17, .pv (iv i))],[],[(.s 6,3)],[]⟩ [.c false]=
 some ((Xt.exit 0,St.mk [(1,AV.pv (iv g)),(6,AV.pv (PV.sl 3 m cs)),(15,AV.pv (PV.sl 3 n ds)),(16,AV.pv (iv (↑n:Int))),(17,AV.pv (iv (↑i:Int))),(18,AV.pv (bv false))] [] [(Pl.s 6,3)] []),[],[decide ((↑i:Int)<(↑n:Int))=false]):=by kernel_rfl
theorem zpM (k n:Nat) (g:Int) (ds:List PV):ay MD v11 k 23 [.sl 3 n ds,iv g] [.c true]=
 some (RV.mk (PV.an [PV.lit (Value.slice none 0 0),iv (3:Int)]) none,[decide ((↑n:Int)>(100:Int))=true]):=by kernel_rfl
theorem zpN (k n:Nat) (g e:Int) (ds:List PV):ay MD v11 k 23 [.sl 3 n ds,iv g] [.c false, .l .ret ⟨[(4, .pv aU),(5, .pv (iv e))],[],[],[]⟩]=
 some (RV.mk (PV.an [PV.lit (Value.slice none 0 0),iv e]) none,[decide ((↑n:Int)>(100:Int))=false,aN MD v11 k (23:Nat) (0:Nat) (St.mk [(1,AV.pv (iv g)),(6,AV.pv (PV.lit (Value.slice none 0 0))),(15,AV.pv (PV.sl 3 n ds)),(16,AV.pv (iv (↑n:Int))),(17,AV.pv (iv (0:Int)))] [] [] []) Xt.ret (St.mk [(4,AV.pv (PV.lit (Value.slice none 0 0))),(5,AV.pv (iv e))] [] [] [])]):=by kernel_rfl
theorem zpO (k n m i:Nat) (g:Int) (ds cs aZ:List PV):ay MD v11 k 23 [.sl 3 n ds,iv g] [.c false, .l (.exit 0) ⟨[(1, .pv (iv g)),(6, .pv (.sl 3 m cs)),(15, .pv (.sl 3 n ds)),(16, .pv (iv n)),(17, .pv (iv i)),(18, .pv (bv false))],[],[(.s 6,3)],[]⟩, .m (.pv (.an [])) aZ, .f aZ]=
 some (RV.mk (PV.an [PV.sl 3 m aZ,iv (0:Int)]) none,[decide ((↑n:Int)>(100:Int))=false,aN MD v11 k (23:Nat) (0:Nat) (St.mk [(1,AV.pv (iv g)),(6,AV.pv (PV.lit (Value.slice none 0 0))),(15,AV.pv (PV.sl 3 n ds)),(16,AV.pv (iv (↑n:Int))),(17,AV.pv (iv (0:Int)))] [] [] []) (Xt.exit 0) (St.mk [(1,AV.pv (iv g)),(6,AV.pv (PV.sl 3 m cs)),(15,AV.pv (PV.sl 3 n ds)),(16,AV.pv (iv (↑n:Int))),(17,AV.pv (iv (↑i:Int))),(18,AV.pv (bv false))] [] [(Pl.s 6,3)] []),cs.all bS=true,cC v11 41 [MA.g cs 0 3 m,MA.p (PV.fn 42 [PV.el [PV.fn 40 []]])] (MR.pv (PV.an [])) aZ,de aZ 0 (m* 3) aZ]):=by kernel_rfl
theorem zpP (k n:Nat) (g:Int) (ds:List PV):ay MD OJ k 23 [.sl 3 0 ds,iv g] [.c false, .u 1, .c false, .r (one (.an []))]=
 some (RV.mk (PV.an [PV.lit (Value.slice none 0 0),iv (0:Int)]) none,[false=false,1≤k,false=false,aa OJ 41 [PV.lit (Value.slice none 0 0),PV.fn 42 [PV.el [PV.fn 40 []]]] (RV.mk (PV.an []) none)]):=by kernel_rfl
end Go.Proofs.YtibbgjafjhcemaaDoor.Cul
namespace Go.Proofs.YtibbgjafjhcemaaDoor.Cul
open Go Go.RowKit
noncomputable def fC:Cl:=bQ [(11,oC fun x y=>(x+y)%24),(12,oC fun x y=>(x+y)%24)]
theorem Uv (k n m i:Nat) (f a b j I:Int) (ds es:List PV):ak MD fC k 25 0 ⟨[(0, .pv (.sl 1 n ds)),(1, .pv (.sl 1 m es)),(6, .pv (iv f)),(26, .pv (iv n)),(27, .pv (iv i))],[],[],[]⟩ [.c true, .a 32 [iv a], .a 36 [iv b], .r (one (iv j)), .c false, .i 41 I]=
 some ((Xt.normal,St.mk [(0,AV.pv (PV.sl 1 n ds)),(1,AV.pv (PV.sl 1 m es)),(6,AV.pv (iv f)),(26,AV.pv (iv (↑n:Int))),(27,AV.pv (iv I))] [] [] []),[],[decide ((↑i:Int)<(↑n:Int))=true,az ds 1 (↑i:Int) n [iv a],az es 1 (↑i:Int) m [iv b],aa fC 11 [iv a,iv b] (RV.mk (iv j) none),(j !=f)=false,IntKind.i64.wrap ((↑i:Int)+(1:Int))=I]):=by kernel_rfl
theorem Uw (k n m i:Nat) (f a b j I:Int) (ds es:List PV):ak MD fC k 25 0 ⟨[(0, .pv (.sl 1 n ds)),(1, .pv (.sl 1 m es)),(6, .pv (iv f)),(26, .pv (iv n)),(27, .pv (iv i))],[],[],[]⟩ [.c true, .a 32 [iv a], .a 36 [iv b], .r (one (iv j)), .c true]=
 some ((Xt.ret,St.mk [(4,AV.pv (iv (0:Int))),(5,AV.pv (iv (7:Int)))] [] [] []),[],[decide ((↑i:Int)<(↑n:Int))=true,az ds 1 (↑i:Int) n [iv a],az es 1 (↑i:Int) m [iv b],aa fC 11 [iv a,iv b] (RV.mk (iv j) none),(j !=f)=true]):=by kernel_rfl
theorem Ux (k n m i:Nat) (f a b j I:Int) (ds es:List PV):ak MD fC k 25 0 ⟨[(0, .pv (.sl 1 n ds)),(1, .pv (.sl 1 m es)),(6, .pv (iv f)),(26, .pv (iv n)),(27, .pv (iv i))],[],[],[]⟩ [.c false]=
 some ((Xt.exit 0,St.mk [(0,AV.pv (PV.sl 1 n ds)),(1,AV.pv (PV.sl 1 m es)),(6,AV.pv (iv f)),(26,AV.pv (iv (↑n:Int))),(27,AV.pv (iv (↑i:Int))),(28,AV.pv (bv false))] [] [] []),[],[decide ((↑i:Int)<(↑n:Int))=false]):=by kernel_rfl
theorem Uy (k n m i:Nat) (f a b j I:Int) (ds es:List PV):ay MD fC k 25 [.sl 1 n ds, .sl 1 m es] [.c true]=
 some (RV.mk (PV.an [iv (0:Int),iv (1:Int)]) none,[((↑n:Int) !=(↑m:Int))=true]):=by kernel_rfl
theorem Uz (k n m i:Nat) (f a b j I:Int) (ds es:List PV):ay MD fC k 25 [.sl 1 n ds, .sl 1 m es] [.c false, .c true]=
 some (RV.mk (PV.an [iv (0:Int),iv (1:Int)]) none,[((↑n:Int) !=(↑m:Int))=false,((↑n:Int)==(0:Int))=true]):=by kernel_rfl
theorem UA (k n m i:Nat) (f a b j I:Int) (ds es:List PV):ay MD fC k 25 [.sl 1 n ds, .sl 1 m es] [.c false, .c false, .a 19 [iv a], .a 22 [iv b], .r (one (iv f)), .l .ret ⟨[(4, .pv (iv 0)),(5, .pv (iv 7))],[],[],[]⟩]=
 some (RV.mk (PV.an [iv (0:Int),iv (7:Int)]) none,[((↑n:Int) !=(↑m:Int))=false,((↑n:Int)==(0:Int))=false,az ds 1 (0:Int) n [iv a],az es 1 (0:Int) m [iv b],aa fC 11 [iv a,iv b] (RV.mk (iv f) none),aN MD fC k (25:Nat) (0:Nat) (St.mk [(0,AV.pv (PV.sl 1 n ds)),(1,AV.pv (PV.sl 1 m es)),(6,AV.pv (iv f)),(26,AV.pv (iv (↑n:Int))),(27,AV.pv (iv (0:Int)))] [] [] []) Xt.ret (St.mk [(4,AV.pv (iv (0:Int))),(5,AV.pv (iv (7:Int)))] [] [] [])]):=by kernel_rfl
theorem UB (k n m i:Nat) (f a b j I:Int) (ds es:List PV):ay MD fC k 25 [.sl 1 n ds, .sl 1 m es] [.c false, .c false, .a 19 [iv a], .a 22 [iv b], .r (one (iv f)), .l (.exit 0) ⟨[(0, .pv (.sl 1 n ds)),(1, .pv (.sl 1 m es)),(6, .pv (iv f)),(26, .pv (iv n)),(27, .pv (iv i)),(28, .pv (bv false))],[],[],[]⟩]=
 some (RV.mk (PV.an [iv f,iv (0:Int)]) none,[((↑n:Int) !=(↑m:Int))=false,((↑n:Int)==(0:Int))=false,az ds 1 (0:Int) n [iv a],az es 1 (0:Int) m [iv b],aa fC 11 [iv a,iv b] (RV.mk (iv f) none),aN MD fC k (25:Nat) (0:Nat) (St.mk [(0,AV.pv (PV.sl 1 n ds)),(1,AV.pv (PV.sl 1 m es)),(6,AV.pv (iv f)),(26,AV.pv (iv (↑n:Int))),(27,AV.pv (iv (0:Int)))] [] [] []) (Xt.exit 0) (St.mk [(0,AV.pv (PV.sl 1 n ds)),(1,AV.pv (PV.sl 1 m es)),(6,AV.pv (iv f)),(26,AV.pv (iv (↑n:Int))),(27,AV.pv (iv (↑i:Int))),(28,AV.pv (bv false))] [] [] [])]):=by kernel_rfl
theorem UC (k n m i:Nat) (f a b j I:Int) (ds es:List PV):ak MD fC k 26 0 ⟨[(0, .pv (.sl 1 n ds)),(1, .pv (.sl 1 m es)),(6, .pv (iv f)),(7, .pv (iv i))],[],[],[]⟩ [.c true, .a 33 [iv a], .a 37 [iv b], .r (one (iv j)), .c false, .i 30 I]=
 some ((Xt.normal,St.mk [(0,AV.pv (PV.sl 1 n ds)),(1,AV.pv (PV.sl 1 m es)),(6,AV.pv (iv f)),(7,AV.pv (iv I))] [] [] []),[],[decide ((↑i:Int)<(↑n:Int))=true,az ds 1 (↑i:Int) n [iv a],az es 1 (↑i:Int) m [iv b],aa fC 12 [iv a,iv b] (RV.mk (iv j) none),(j !=f)=false,IntKind.i64.wrap ((↑i:Int)+(1:Int))=I]):=by kernel_rfl
theorem UD (k n m i:Nat) (f a b j I:Int) (ds es:List PV):ak MD fC k 26 0 ⟨[(0, .pv (.sl 1 n ds)),(1, .pv (.sl 1 m es)),(6, .pv (iv f)),(7, .pv (iv i))],[],[],[]⟩ [.c true, .a 33 [iv a], .a 37 [iv b], .r (one (iv j)), .c true]=
 some ((Xt.ret,St.mk [(4,AV.pv (iv (0:Int))),(5,AV.pv (iv (7:Int)))] [] [] []),[],[decide ((↑i:Int)<(↑n:Int))=true,az ds 1 (↑i:Int) n [iv a],az es 1 (↑i:Int) m [iv b],aa fC 12 [iv a,iv b] (RV.mk (iv j) none),(j !=f)=true]):=by kernel_rfl
theorem UE (k n m i:Nat) (f a b j I:Int) (ds es:List PV):ak MD fC k 26 0 ⟨[(0, .pv (.sl 1 n ds)),(1, .pv (.sl 1 m es)),(6, .pv (iv f)),(7, .pv (iv i))],[],[],[]⟩ [.c false]=
 some ((Xt.exit 0,St.mk [(0,AV.pv (PV.sl 1 n ds)),(1,AV.pv (PV.sl 1 m es)),(6,AV.pv (iv f)),(7,AV.pv (iv (↑i:Int))),(28,AV.pv (bv false))] [] [] []),[],[decide ((↑i:Int)<(↑n:Int))=false]):=by kernel_rfl
theorem UF (k n m i:Nat) (f a b j I:Int) (ds es:List PV):ay MD fC k 26 [.sl 1 n ds, .sl 1 m es] [.c true]=
 some (RV.mk (PV.an [iv (0:Int),iv (1:Int)]) none,[((↑n:Int) !=(↑m:Int))=true]):=by kernel_rfl
theorem UG (k n m i:Nat) (f a b j I:Int) (ds es:List PV):ay MD fC k 26 [.sl 1 n ds, .sl 1 m es] [.c false, .c true]=
 some (RV.mk (PV.an [iv (0:Int),iv (1:Int)]) none,[((↑n:Int) !=(↑m:Int))=false,((↑n:Int)==(0:Int))=true]):=by kernel_rfl
theorem UH (k n m i:Nat) (f a b j I:Int) (ds es:List PV):ay MD fC k 26 [.sl 1 n ds, .sl 1 m es] [.c false, .c false, .a 19 [iv a], .a 22 [iv b], .r (one (iv f)), .l .ret ⟨[(4, .pv (iv 0)),(5, .pv (iv 7))],[],[],[]⟩]=
 some (RV.mk (PV.an [iv (0:Int),iv (7:Int)]) none,[((↑n:Int) !=(↑m:Int))=false,((↑n:Int)==(0:Int))=false,az ds 1 (0:Int) n [iv a],az es 1 (0:Int) m [iv b],aa fC 12 [iv a,iv b] (RV.mk (iv f) none),aN MD fC k (26:Nat) (0:Nat) (St.mk [(0,AV.pv (PV.sl 1 n ds)),(1,AV.pv (PV.sl 1 m es)),(6,AV.pv (iv f)),(7,AV.pv (iv (1:Int)))] [] [] []) Xt.ret (St.mk [(4,AV.pv (iv (0:Int))),(5,AV.pv (iv (7:Int)))] [] [] [])]):=by kernel_rfl
theorem UI (k n m i:Nat) (f a b j I:Int) (ds es:List PV):ay MD fC k 26 [.sl 1 n ds, .sl 1 m es] [.c false, .c false, .a 19 [iv a], .a 22 [iv b], .r (one (iv f)), .l (.exit 0) ⟨[(0, .pv (.sl 1 n ds)),(1, .pv (.sl 1 m es)),(6, .pv (iv f)),(7, .pv (iv i)),(28, .pv (bv false))],[],[],[]⟩]=
 some (RV.mk (PV.an [iv f,iv (0:Int)]) none,[((↑n:Int) !=(↑m:Int))=false,((↑n:Int)==(0:Int))=false,az ds 1 (0:Int) n [iv a],az es 1 (0:Int) m [iv b],aa fC 12 [iv a,iv b] (RV.mk (iv f) none),aN MD fC k (26:Nat) (0:Nat) (St.mk [(0,AV.pv (PV.sl 1 n ds)),(1,AV.pv (PV.sl 1 m es)),(6,AV.pv (iv f)),(7,AV.pv (iv (1:Int)))] [] [] []) (Xt.exit 0) (St.mk [(0,AV.pv (PV.sl 1 n ds)),(1,AV.pv (PV.sl 1 m es)),(6,AV.pv (iv f)),(7,AV.pv (iv (↑i:Int))),(28,AV.pv (bv false))] [] [] [])]):=by kernel_rfl
theorem UK (k n m i:Nat) (I:Int) (ds es:List PV) (x y:aj):ak MD (bQ []) k 27 0 ⟨[(0, .pv (.sl 3 n ds)),(1, .pv (.sl 3 m es)),(5, .pv (iv i))],[],[],[]⟩ [.c true, .a 19 x.cells, .a 23 y.cells, .g false, .i 16 I]=
 some ((Xt.normal,St.mk [(0,AV.pv (PV.sl 3 n ds)),(1,AV.pv (PV.sl 3 m es)),(5,AV.pv (iv I))] [] [] []),[],[decide ((↑i:Int)<(↑n:Int))=true,az ds 3 (↑i:Int) n x.cells,az es 3 (↑i:Int) m y.cells,iJ MD.P BinOp.neq 36 (Operand.tmp (20:Nat)) (Operand.tmp (24:Nat)) (Value.agg x.vals.toArray) (Value.agg y.vals.toArray) false,IntKind.i64.wrap ((↑i:Int)+(1:Int))=I]):=by kernel_rfl
theorem UL (k n m i:Nat) (I:Int) (ds es:List PV) (x y:aj):ak MD (bQ []) k 27 0 ⟨[(0, .pv (.sl 3 n ds)),(1, .pv (.sl 3 m es)),(5, .pv (iv i))],[],[],[]⟩ [.c false]=
 some ((Xt.exit 0,St.mk [(0,AV.pv (PV.sl 3 n ds)),(1,AV.pv (PV.sl 3 m es)),(5,AV.pv (iv (↑i:Int))),(14,AV.pv (bv false))] [] [] []),[],[decide ((↑i:Int)<(↑n:Int))=false]):=by kernel_rfl
theorem UM (k n m i:Nat) (I:Int) (ds es:List PV) (x y:aj):ay MD (bQ []) k 27 [.sl 3 n ds, .sl 3 m es] [.c false, .l (.exit 0) ⟨[(0, .pv (.sl 3 n ds)),(1, .pv (.sl 3 m es)),(5, .pv (iv i)),(14, .pv (bv false))],[],[],[]⟩]=
 some (RV.mk (bv true) none,[((↑n:Int) !=(↑m:Int))=false,aN MD (bQ []) k (27:Nat) (0:Nat) (St.mk [(0,AV.pv (PV.sl 3 n ds)),(1,AV.pv (PV.sl 3 m es)),(5,AV.pv (iv (0:Int)))] [] [] []) (Xt.exit 0) (St.mk [(0,AV.pv (PV.sl 3 n ds)),(1,AV.pv (PV.sl 3 m es)),(5,AV.pv (iv (↑i:Int))),(14,AV.pv (bv false))] [] [] [])]):=by kernel_rfl
theorem UN (k:Nat):ay MD (bQ []) k 27 [aU,aU] [.c false, .u 1, .c false]=
 some (RV.mk (bv true) none,[false=false,1≤k,false=false]):=by kernel_rfl
end Go.Proofs.YtibbgjafjhcemaaDoor.Cul
namespace Go.Proofs.YtibbgjafjhcemaaDoor.Cul
open Go Go.RowKit
theorem PU (k n i m r:Nat) (g:Int) (ds cs es aK:List PV) (x y:aj) (e j I:Int):ak MD bT k 24 0 ⟨[(0, .pv (.sl 3 n ds)),(1, .pv (iv g)),(6, .pv aU),(7, .pv aU),(8, .pv (iv i))],[],[],[]⟩ [.c true, .a 23 x.cells, .r (one (.an [.ag y.cells,iv e])), .c false, .c true, .a 36 x.cells, .r (one (iv j)), .a 44 x.cells, .c true, .c false, .i 19 I]=
 some ((Xt.normal,St.mk [(0,AV.pv (PV.sl 3 n ds)),(1,AV.pv (iv g)),(6,AV.pv (PV.sl 3 1 [iv y.h,iv y.v,iv j])),(7,AV.pv (PV.lit (Value.slice none 0 0))),(8,AV.pv (iv I))] [] [(Pl.s 6,3)] []),[],[decide ((↑i:Int)<(↑n:Int))=true,az ds 3 (↑i:Int) n x.cells,aa bT 19 [PV.ag x.cells] (RV.mk (PV.an [PV.ag y.cells,iv e]) none),(e !=(0:Int))=false,decide (y.h>(0:Int))=true,az ds 3 (↑i:Int) n x.cells,aa bT 10 [iv x.i,iv g] (RV.mk (iv j) none),az ds 3 (↑i:Int) n x.cells,decide (x.v>(0:Int))=true,24≤140737488355328∧1≤140737488355328,3=3∧0=0,decide (((1:Nat),splice (bh (PV.ag ((fun x=>iv (0:Int)::x) ((fun x=>iv (0:Int)::x) ((fun x=>iv (0:Int)::x) [])))).cells (1:Nat)) ((0:Nat)* (fun x=>x.size) MD.P.types[(36:Nat)]) (PV.ag (List.take ((fun x=>x.size) MD.P.types[(36:Nat)]) (List.drop (0:Nat) (splice (splice (PV.ag ((fun x=>iv (0:Int)::x) ((fun x=>iv (0:Int)::x) ((fun x=>iv (0:Int)::x) [])))).cells (0:Nat) (PV.ag y.cells).cells) ((0:Nat)+ #[Field.mk "H" (3:Nat) (0:Nat) false "" "" (0:Nat),Field.mk "V" (3:Nat) (1:Nat) false "" "" (8:Nat),Field.mk "Index" (3:Nat) (2:Nat) false "" "" (16:Nat)][(2:Nat)].offset) (one (iv j)).v.cells)))).cells).fst=(0:Nat))=false,IntKind.i64.wrap ((↑i:Int)+(1:Int))=I]):=by kernel_rfl
theorem PS (k n i m r:Nat) (g:Int) (ds cs es aK:List PV) (x y:aj) (e j I:Int):ak MD bT k 24 0 ⟨[(0, .pv (.sl 3 n ds)),(1, .pv (iv g)),(6, .pv aU),(7, .pv aU),(8, .pv (iv i))],[],[],[]⟩ [.c true, .a 23 x.cells, .r (one (.an [.ag y.cells,iv e])), .c false, .c true, .a 36 x.cells, .r (one (iv j)), .a 44 x.cells, .c false, .c false, .i 19 I]=
 some ((Xt.normal,St.mk [(0,AV.pv (PV.sl 3 n ds)),(1,AV.pv (iv g)),(6,AV.pv (PV.lit (Value.slice none 0 0))),(7,AV.pv (PV.sl 3 1 [iv y.h,iv y.v,iv j])),(8,AV.pv (iv I))] [] [(Pl.s 7,3)] []),[],[decide ((↑i:Int)<(↑n:Int))=true,az ds 3 (↑i:Int) n x.cells,aa bT 19 [PV.ag x.cells] (RV.mk (PV.an [PV.ag y.cells,iv e]) none),(e !=(0:Int))=false,decide (y.h>(0:Int))=true,az ds 3 (↑i:Int) n x.cells,aa bT 10 [iv x.i,iv g] (RV.mk (iv j) none),az ds 3 (↑i:Int) n x.cells,decide (x.v>(0:Int))=false,24≤140737488355328∧1≤140737488355328,3=3∧0=0,decide (((1:Nat),splice (bh (PV.ag ((fun x=>iv (0:Int)::x) ((fun x=>iv (0:Int)::x) ((fun x=>iv (0:Int)::x) [])))).cells (1:Nat)) ((0:Nat)* (fun x=>x.size) MD.P.types[(36:Nat)]) (PV.ag (List.take ((fun x=>x.size) MD.P.types[(36:Nat)]) (List.drop (0:Nat) (splice (splice (PV.ag ((fun x=>iv (0:Int)::x) ((fun x=>iv (0:Int)::x) ((fun x=>iv (0:Int)::x) [])))).cells (0:Nat) (PV.ag y.cells).cells) ((0:Nat)+ #[Field.mk "H" (3:Nat) (0:Nat) false "" "" (0:Nat),Field.mk "V" (3:Nat) (1:Nat) false "" "" (8:Nat),Field.mk "Index" (3:Nat) (2:Nat) false "" "" (16:Nat)][(2:Nat)].offset) (one (iv j)).v.cells)))).cells).fst=(0:Nat))=false,IntKind.i64.wrap ((↑i:Int)+(1:Int))=I]):=by kernel_rfl
theorem PR (k n i m r:Nat) (g:Int) (ds cs es aK:List PV) (x y:aj) (e j I:Int):ak MD bT k 24 0 ⟨[(0, .pv (.sl 3 n ds)),(1, .pv (iv g)),(6, .pv aU),(7, .pv aU),(8, .pv (iv i))],[],[],[]⟩ [.c true, .a 23 x.cells, .r (one (.an [.ag y.cells,iv e])), .c false, .c false, .a 44 x.cells, .c true, .c false, .i 19 I]=
 some ((Xt.normal,St.mk [(0,AV.pv (PV.sl 3 n ds)),(1,AV.pv (iv g)),(6,AV.pv (PV.sl 3 1 y.cells)),(7,AV.pv (PV.lit (Value.slice none 0 0))),(8,AV.pv (iv I))] [] [(Pl.s 6,3)] []),[],[decide ((↑i:Int)<(↑n:Int))=true,az ds 3 (↑i:Int) n x.cells,aa bT 19 [PV.ag x.cells] (RV.mk (PV.an [PV.ag y.cells,iv e]) none),(e !=(0:Int))=false,decide (y.h>(0:Int))=false,az ds 3 (↑i:Int) n x.cells,decide (x.v>(0:Int))=true,24≤140737488355328∧1≤140737488355328,3=3∧0=0,decide (((1:Nat),splice (bh (PV.ag ((fun x=>iv (0:Int)::x) ((fun x=>iv (0:Int)::x) ((fun x=>iv (0:Int)::x) [])))).cells (1:Nat)) ((0:Nat)* (fun x=>x.size) MD.P.types[(36:Nat)]) (PV.ag (List.take ((fun x=>x.size) MD.P.types[(36:Nat)]) (List.drop (0:Nat) (splice (PV.ag ((fun x=>iv (0:Int)::x) ((fun x=>iv (0:Int)::x) ((fun x=>iv (0:Int)::x) [])))).cells (0:Nat) (PV.ag y.cells).cells)))).cells).fst=(0:Nat))=false,IntKind.i64.wrap ((↑i:Int)+(1:Int))=I]):=by kernel_rfl
theorem PO (k n i m r:Nat) (g:Int) (ds cs es aK:List PV) (x y:aj) (e j I:Int):ak MD bT k 24 0 ⟨[(0, .pv (.sl 3 n ds)),(1, .pv (iv g)),(6, .pv aU),(7, .pv aU),(8, .pv (iv i))],[],[],[]⟩ [.c true, .a 23 x.cells, .r (one (.an [.ag y.cells,iv e])), .c false, .c false, .a 44 x.cells, .c false, .c false, .i 19 I]=
 some ((Xt.normal,St.mk [(0,AV.pv (PV.sl 3 n ds)),(1,AV.pv (iv g)),(6,AV.pv (PV.lit (Value.slice none 0 0))),(7,AV.pv (PV.sl 3 1 y.cells)),(8,AV.pv (iv I))] [] [(Pl.s 7,3)] []),[],[decide ((↑i:Int)<(↑n:Int))=true,az ds 3 (↑i:Int) n x.cells,aa bT 19 [PV.ag x.cells] (RV.mk (PV.an [PV.ag y.cells,iv e]) none),(e !=(0:Int))=false,decide (y.h>(0:Int))=false,az ds 3 (↑i:Int) n x.cells,decide (x.v>(0:Int))=false,24≤140737488355328∧1≤140737488355328,3=3∧0=0,decide (((1:Nat),splice (bh (PV.ag ((fun x=>iv (0:Int)::x) ((fun x=>iv (0:Int)::x) ((fun x=>iv (0:Int)::x) [])))).cells (1:Nat)) ((0:Nat)* (fun x=>x.size) MD.P.types[(36:Nat)]) (PV.ag (List.take ((fun x=>x.size) MD.P.types[(36:Nat)]) (List.drop (0:Nat) (splice (PV.ag ((fun x=>iv (0:Int)::x) ((fun x=>iv (0:Int)::x) ((fun x=>iv (0:Int)::x) [])))).cells (0:Nat) (PV.ag y.cells).cells)))).cells).fst=(0:Nat))=false,IntKind.i64.wrap ((↑i:Int)+(1:Int))=I]):=by kernel_rfl
theorem Uj (k n i m r:Nat) (g:Int) (ds cs es aK:List PV) (x y:aj) (e j I:Int):ak MD bT k 24 0 ⟨[(0, .pv (.sl 3 n ds)),(1, .pv (iv g)),(6, .pv aU),(7, .pv aU),(8, .pv (iv i))],[],[],[]⟩ [.c true, .a 23 x.cells, .r (one (.an [.ag y.cells,iv e])), .c true]=
 some ((Xt.ret,St.mk [(4,AV.pv (PV.lit (Value.slice none 0 0))),(5,AV.pv (iv e))] [] [] []),[],[decide ((↑i:Int)<(↑n:Int))=true,az ds 3 (↑i:Int) n x.cells,aa bT 19 [PV.ag x.cells] (RV.mk (PV.an [PV.ag y.cells,iv e]) none),(e !=(0:Int))=true]):=by kernel_rfl
theorem Uk (k n i m r:Nat) (g:Int) (ds cs es aK:List PV) (x y:aj) (e j I:Int):ak MD bT k 24 0 ⟨[(0, .pv (.sl 3 n ds)),(1, .pv (iv g)),(6, .pv aU),(7, .pv aU),(8, .pv (iv i))],[],[],[]⟩ [.c false]=
 some ((Xt.exit 0,St.mk [(0,AV.pv (PV.sl 3 n ds)),(1,AV.pv (iv g)),(6,AV.pv (PV.lit (Value.slice none 0 0))),(7,AV.pv (PV.lit (Value.slice none 0 0))),(8,AV.pv (iv (↑i:Int))),(17,AV.pv (bv false))] [] [] []),[],[decide ((↑i:Int)<(↑n:Int))=false]):=by kernel_rfl
theorem Ul (k n i m r:Nat) (g:Int) (ds cs es aK:List PV) (x y:aj) (e j I:Int):ay MD bT k 24 [.sl 3 n ds,iv g] [.c false, .l (.exit 0) ⟨[(0, .pv (.sl 3 n ds)),(1, .pv (iv g)),(6, .pv aU),(7, .pv aU),(8, .pv (iv i)),(17, .pv (bv false))],[],[],[]⟩, .c true]=
 some (RV.mk (PV.an [PV.lit (Value.slice none 0 0),iv (0:Int)]) none,[decide ((↑n:Int)>(100:Int))=false,aN MD bT k (24:Nat) (0:Nat) (St.mk [(0,AV.pv (PV.sl 3 n ds)),(1,AV.pv (iv g)),(6,AV.pv (PV.lit (Value.slice none 0 0))),(7,AV.pv (PV.lit (Value.slice none 0 0))),(8,AV.pv (iv (0:Int)))] [] [] []) (Xt.exit 0) (St.mk [(0,AV.pv (PV.sl 3 n ds)),(1,AV.pv (iv g)),(6,AV.pv (PV.lit (Value.slice none 0 0))),(7,AV.pv (PV.lit (Value.slice none 0 0))),(8,AV.pv (iv (↑i:Int))),(17,AV.pv (bv false))] [] [] []),0≤140737488355328∧0≤140737488355328,0=0∧0=0,true=true]):=by kernel_rfl
theorem PZ (k n i m r:Nat) (g:Int) (ds cs es aK:List PV) (x y:aj) (e j I:Int):ak MD bT k 24 0 ⟨[(0, .pv (.sl 3 n ds)),(1, .pv (iv g)),(6, .pv (.sl 3 m cs)),(7, .pv aU),(8, .pv (iv i))],[],[(.s 6,3)],[]⟩ [.c true, .a 23 x.cells, .r (one (.an [.ag y.cells,iv e])), .c false, .c true, .a 36 x.cells, .r (one (iv j)), .a 44 x.cells, .c true, .p (m+1) aK, .i 19 I]=
 some ((Xt.normal,St.mk [(0,AV.pv (PV.sl 3 n ds)),(1,AV.pv (iv g)),(6,AV.pv (PV.sl 3 (m+1) aK)),(7,AV.pv (PV.lit (Value.slice none 0 0))),(8,AV.pv (iv I))] [] [(Pl.s 6,3)] []),[],[decide ((↑i:Int)<(↑n:Int))=true,az ds 3 (↑i:Int) n x.cells,aa bT 19 [PV.ag x.cells] (RV.mk (PV.an [PV.ag y.cells,iv e]) none),(e !=(0:Int))=false,decide (y.h>(0:Int))=true,az ds 3 (↑i:Int) n x.cells,aa bT 10 [iv x.i,iv g] (RV.mk (iv j) none),az ds 3 (↑i:Int) n x.cells,decide (x.v>(0:Int))=true,gA m 1 cs [iv y.h,iv y.v,iv j] 24 3 (m+1) aK,IntKind.i64.wrap ((↑i:Int)+(1:Int))=I]):=by kernel_rfl
theorem PY (k n i m r:Nat) (g:Int) (ds cs es aK:List PV) (x y:aj) (e j I:Int):ak MD bT k 24 0 ⟨[(0, .pv (.sl 3 n ds)),(1, .pv (iv g)),(6, .pv (.sl 3 m cs)),(7, .pv aU),(8, .pv (iv i))],[],[(.s 6,3)],[]⟩ [.c true, .a 23 x.cells, .r (one (.an [.ag y.cells,iv e])), .c false, .c true, .a 36 x.cells, .r (one (iv j)), .a 44 x.cells, .c false, .c false, .i 19 I]=
 some ((Xt.normal,St.mk [(0,AV.pv (PV.sl 3 n ds)),(1,AV.pv (iv g)),(6,AV.pv (PV.sl 3 m cs)),(7,AV.pv (PV.sl 3 1 [iv y.h,iv y.v,iv j])),(8,AV.pv (iv I))] [] [(Pl.s 6,3),(Pl.s 7,3)] []),[],[decide ((↑i:Int)<(↑n:Int))=true,az ds 3 (↑i:Int) n x.cells,aa bT 19 [PV.ag x.cells] (RV.mk (PV.an [PV.ag y.cells,iv e]) none),(e !=(0:Int))=false,decide (y.h>(0:Int))=true,az ds 3 (↑i:Int) n x.cells,aa bT 10 [iv x.i,iv g] (RV.mk (iv j) none),az ds 3 (↑i:Int) n x.cells,decide (x.v>(0:Int))=false,24≤140737488355328∧1≤140737488355328,3=3∧0=0,decide (((1:Nat),splice (bh (PV.ag ((fun x=>iv (0:Int)::x) ((fun x=>iv (0:Int)::x) ((fun x=>iv (0:Int)::x) [])))).cells (1:Nat)) ((0:Nat)* (fun x=>x.size) MD.P.types[(36:Nat)]) (PV.ag (List.take ((fun x=>x.size) MD.P.types[(36:Nat)]) (List.drop (0:Nat) (splice (splice (PV.ag ((fun x=>iv (0:Int)::x) ((fun x=>iv (0:Int)::x) ((fun x=>iv (0:Int)::x) [])))).cells (0:Nat) (PV.ag y.cells).cells) ((0:Nat)+ #[Field.mk "H" (3:Nat) (0:Nat) false "" "" (0:Nat),Field.mk "V" (3:Nat) (1:Nat) false "" "" (8:Nat),Field.mk "Index" (3:Nat) (2:Nat) false "" "" (16:Nat)][(2:Nat)].offset) (one (iv j)).v.cells)))).cells).fst=(0:Nat))=false,IntKind.i64.wrap ((↑i:Int)+(1:Int))=I]):=by kernel_rfl
theorem PX (k n i m r:Nat) (g:Int) (ds cs es aK:List PV) (x y:aj) (e j I:Int):ak MD bT k 24 0 ⟨[(0, .pv (.sl 3 n ds)),(1, .pv (iv g)),(6, .pv (.sl 3 m cs)),(7, .pv aU),(8, .pv (iv i))],[],[(.s 6,3)],[]⟩ [.c true, .a 23 x.cells, .r (one (.an [.ag y.cells,iv e])), .c false, .c false, .a 44 x.cells, .c true, .p (m+1) aK, .i 19 I]=
 some ((Xt.normal,St.mk [(0,AV.pv (PV.sl 3 n ds)),(1,AV.pv (iv g)),(6,AV.pv (PV.sl 3 (m+1) aK)),(7,AV.pv (PV.lit (Value.slice none 0 0))),(8,AV.pv (iv I))] [] [(Pl.s 6,3)] []),[],[decide ((↑i:Int)<(↑n:Int))=true,az ds 3 (↑i:Int) n x.cells,aa bT 19 [PV.ag x.cells] (RV.mk (PV.an [PV.ag y.cells,iv e]) none),(e !=(0:Int))=false,decide (y.h>(0:Int))=false,az ds 3 (↑i:Int) n x.cells,decide (x.v>(0:Int))=true,gA m 1 cs y.cells 24 3 (m+1) aK,IntKind.i64.wrap ((↑i:Int)+(1:Int))=I]):=by kernel_rfl
theorem PW (k n i m r:Nat) (g:Int) (ds cs es aK:List PV) (x y:aj) (e j I:Int):ak MD bT k 24 0 ⟨[(0, .pv (.sl 3 n ds)),(1, .pv (iv g)),(6, .pv (.sl 3 m cs)),(7, .pv aU),(8, .pv (iv i))],[],[(.s 6,3)],[]⟩ [.c true, .a 23 x.cells, .r (one (.an [.ag y.cells,iv e])), .c false, .c false, .a 44 x.cells, .c false, .c false, .i 19 I]=
 some ((Xt.normal,St.mk [(0,AV.pv (PV.sl 3 n ds)),(1,AV.pv (iv g)),(6,AV.pv (PV.sl 3 m cs)),(7,AV.pv (PV.sl 3 1 y.cells)),(8,AV.pv (iv I))] [] [(Pl.s 6,3),(Pl.s 7,3)] []),[],[decide ((↑i:Int)<(↑n:Int))=true,az ds 3 (↑i:Int) n x.cells,aa bT 19 [PV.ag x.cells] (RV.mk (PV.an [PV.ag y.cells,iv e]) none),(e !=(0:Int))=false,decide (y.h>(0:Int))=false,az ds 3 (↑i:Int) n x.cells,decide (x.v>(0:Int))=false,24≤140737488355328∧1≤140737488355328,3=3∧0=0,decide (((1:Nat),splice (bh (PV.ag ((fun x=>iv (0:Int)::x) ((fun x=>iv (0:Int)::x) ((fun x=>iv (0:Int)::x) [])))).cells (1:Nat)) ((0:Nat)* (fun x=>x.size) MD.P.types[(36:Nat)]) (PV.ag (List.take ((fun x=>x.size) MD.P.types[(36:Nat)]) (List.drop (0:Nat) (splice (PV.ag ((fun x=>iv (0:Int)::x) ((fun x=>iv (0:Int)::x) ((fun x=>iv (0:Int)::x) [])))).cells (0:Nat) (PV.ag y.cells).cells)))).cells).fst=(0:Nat))=false,IntKind.i64.wrap ((↑i:Int)+(1:Int))=I]):=by kernel_rfl
theorem Um (k n i m r:Nat) (g:Int) (ds cs es aK:List PV) (x y:aj) (e j I:Int):ak MD bT k 24 0 ⟨[(0, .pv (.sl 3 n ds)),(1, .pv (iv g)),(6, .pv (.sl 3 m cs)),(7, .pv aU),(8, .pv (iv i))],[],[(.s 6,3)],[]⟩ [.c true, .a 23 x.cells, .r (one (.an [.ag y.cells,iv e])), .c true]=
 some ((Xt.ret,St.mk [(4,AV.pv (PV.lit (Value.slice none 0 0))),(5,AV.pv (iv e))] [] [] []),[],[decide ((↑i:Int)<(↑n:Int))=true,az ds 3 (↑i:Int) n x.cells,aa bT 19 [PV.ag x.cells] (RV.mk (PV.an [PV.ag y.cells,iv e]) none),(e !=(0:Int))=true]):=by kernel_rfl
theorem Un (k n i m r:Nat) (g:Int) (ds cs es aK:List PV) (x y:aj) (e j I:Int):ak MD bT k 24 0 ⟨[(0, .pv (.sl 3 n ds)),(1, .pv (iv g)),(6, .pv (.sl 3 m cs)),(7, .pv aU),(8, .pv (iv i))],[],[(.s 6,3)],[]⟩ [.c false]=
 some ((Xt.exit 0,St.mk [(0,AV.pv (PV.sl 3 n ds)),(1,AV.pv (iv g)),(6,AV.pv (PV.sl 3 m cs)),(7,AV.pv (PV.lit (Value.slice none 0 0))),(8,AV.pv (iv (↑i:Int))),(17,AV.pv (bv false))] [] [(Pl.s 6,3)] []),[],[decide ((↑i:Int)<(↑n:Int))=false]):=by kernel_rfl
theorem Uo (k n i m r:Nat) (g:Int) (ds cs es aK:List PV) (x y:aj) (e j I:Int):ay MD bT k 24 [.sl 3 n ds,iv g] [.c false, .l (.exit 0) ⟨[(0, .pv (.sl 3 n ds)),(1, .pv (iv g)),(6, .pv (.sl 3 m cs)),(7, .pv aU),(8, .pv (iv i)),(17, .pv (bv false))],[],[(.s 6,3)],[]⟩, .p m aK]=
 some (RV.mk (PV.an [PV.sl 3 m aK,iv (0:Int)]) none,[decide ((↑n:Int)>(100:Int))=false,aN MD bT k (24:Nat) (0:Nat) (St.mk [(0,AV.pv (PV.sl 3 n ds)),(1,AV.pv (iv g)),(6,AV.pv (PV.lit (Value.slice none 0 0))),(7,AV.pv (PV.lit (Value.slice none 0 0))),(8,AV.pv (iv (0:Int)))] [] [] []) (Xt.exit 0) (St.mk [(0,AV.pv (PV.sl 3 n ds)),(1,AV.pv (iv g)),(6,AV.pv (PV.sl 3 m cs)),(7,AV.pv (PV.lit (Value.slice none 0 0))),(8,AV.pv (iv (↑i:Int))),(17,AV.pv (bv false))] [] [(Pl.s 6,3)] []),gA m 0 cs [] 24 3 m aK]):=by kernel_rfl
theorem P4 (k n i m r:Nat) (g:Int) (ds cs es aK:List PV) (x y:aj) (e j I:Int):ak MD bT k 24 0 ⟨[(0, .pv (.sl 3 n ds)),(1, .pv (iv g)),(6, .pv aU),(7, .pv (.sl 3 r es)),(8, .pv (iv i))],[],[(.s 7,3)],[]⟩ [.c true, .a 23 x.cells, .r (one (.an [.ag y.cells,iv e])), .c false, .c true, .a 36 x.cells, .r (one (iv j)), .a 44 x.cells, .c true, .c false, .i 19 I]=
 some ((Xt.normal,St.mk [(0,AV.pv (PV.sl 3 n ds)),(1,AV.pv (iv g)),(6,AV.pv (PV.sl 3 1 [iv y.h,iv y.v,iv j])),(7,AV.pv (PV.sl 3 r es)),(8,AV.pv (iv I))] [] [(Pl.s 6,3),(Pl.s 7,3)] []),[],[decide ((↑i:Int)<(↑n:Int))=true,az ds 3 (↑i:Int) n x.cells,aa bT 19 [PV.ag x.cells] (RV.mk (PV.an [PV.ag y.cells,iv e]) none),(e !=(0:Int))=false,decide (y.h>(0:Int))=true,az ds 3 (↑i:Int) n x.cells,aa bT 10 [iv x.i,iv g] (RV.mk (iv j) none),az ds 3 (↑i:Int) n x.cells,decide (x.v>(0:Int))=true,24≤140737488355328∧1≤140737488355328,3=3∧0=0,decide (((1:Nat),splice (bh (PV.ag ((fun x=>iv (0:Int)::x) ((fun x=>iv (0:Int)::x) ((fun x=>iv (0:Int)::x) [])))).cells (1:Nat)) ((0:Nat)* (fun x=>x.size) MD.P.types[(36:Nat)]) (PV.ag (List.take ((fun x=>x.size) MD.P.types[(36:Nat)]) (List.drop (0:Nat) (splice (splice (PV.ag ((fun x=>iv (0:Int)::x) ((fun x=>iv (0:Int)::x) ((fun x=>iv (0:Int)::x) [])))).cells (0:Nat) (PV.ag y.cells).cells) ((0:Nat)+ #[Field.mk "H" (3:Nat) (0:Nat) false "" "" (0:Nat),Field.mk "V" (3:Nat) (1:Nat) false "" "" (8:Nat),Field.mk "Index" (3:Nat) (2:Nat) false "" "" (16:Nat)][(2:Nat)].offset) (one (iv j)).v.cells)))).cells).fst=(0:Nat))=false,IntKind.i64.wrap ((↑i:Int)+(1:Int))=I]):=by kernel_rfl
theorem P3 (k n i m r:Nat) (g:Int) (ds cs es aK:List PV) (x y:aj) (e j I:Int):ak MD bT k 24 0 ⟨[(0, .pv (.sl 3 n ds)),(1, .pv (iv g)),(6, .pv aU),(7, .pv (.sl 3 r es)),(8, .pv (iv i))],[],[(.s 7,3)],[]⟩ [.c true, .a 23 x.cells, .r (one (.an [.ag y.cells,iv e])), .c false, .c true, .a 36 x.cells, .r (one (iv j)), .a 44 x.cells, .c false, .p (r+1) aK, .i 19 I]=
 some ((Xt.normal,St.mk [(0,AV.pv (PV.sl 3 n ds)),(1,AV.pv (iv g)),(6,AV.pv (PV.lit (Value.slice none 0 0))),(7,AV.pv (PV.sl 3 (r+1) aK)),(8,AV.pv (iv I))] [] [(Pl.s 7,3)] []),[],[decide ((↑i:Int)<(↑n:Int))=true,az ds 3 (↑i:Int) n x.cells,aa bT 19 [PV.ag x.cells] (RV.mk (PV.an [PV.ag y.cells,iv e]) none),(e !=(0:Int))=false,decide (y.h>(0:Int))=true,az ds 3 (↑i:Int) n x.cells,aa bT 10 [iv x.i,iv g] (RV.mk (iv j) none),az ds 3 (↑i:Int) n x.cells,decide (x.v>(0:Int))=false,gA r 1 es [iv y.h,iv y.v,iv j] 24 3 (r+1) aK,IntKind.i64.wrap ((↑i:Int)+(1:Int))=I]):=by kernel_rfl
theorem P2 (k n i m r:Nat) (g:Int) (ds cs es aK:List PV) (x y:aj) (e j I:Int):ak MD bT k 24 0 ⟨[(0, .pv (.sl 3 n ds)),(1, .pv (iv g)),(6, .pv aU),(7, .pv (.sl 3 r es)),(8, .pv (iv i))],[],[(.s 7,3)],[]⟩ [.c true, .a 23 x.cells, .r (one (.an [.ag y.cells,iv e])), .c false, .c false, .a 44 x.cells, .c true, .c false, .i 19 I]=
 some ((Xt.normal,St.mk [(0,AV.pv (PV.sl 3 n ds)),(1,AV.pv (iv g)),(6,AV.pv (PV.sl 3 1 y.cells)),(7,AV.pv (PV.sl 3 r es)),(8,AV.pv (iv I))] [] [(Pl.s 6,3),(Pl.s 7,3)] []),[],[decide ((↑i:Int)<(↑n:Int))=true,az ds 3 (↑i:Int) n x.cells,aa bT 19 [PV.ag x.cells] (RV.mk (PV.an [PV.ag y.cells,iv e]) none),(e !=(0:Int))=false,decide (y.h>(0:Int))=false,az ds 3 (↑i:Int) n x.cells,decide (x.v>(0:Int))=true,24≤140737488355328∧1≤140737488355328,3=3∧0=0,decide (((1:Nat),splice (bh (PV.ag ((fun x=>iv (0:Int)::x) ((fun x=>iv (0:Int)::x) ((fun x=>iv (0:Int)::x) [])))).cells (1:Nat)) ((0:Nat)* (fun x=>x.size) MD.P.types[(36:Nat)]) (PV.ag (List.take ((fun x=>x.size) MD.P.types[(36:Nat)]) (List.drop (0:Nat) (splice (PV.ag ((fun x=>iv (0:Int)::x) ((fun x=>iv (0:Int)::x) ((fun x=>iv (0:Int)::x) [])))).cells (0:Nat) (PV.ag y.cells).cells)))).cells).fst=(0:Nat))=false,IntKind.i64.wrap ((↑i:Int)+(1:Int))=I]):=by kernel_rfl
theorem P1 (k n i m r:Nat) (g:Int) (ds cs es aK:List PV) (x y:aj) (e j I:Int):ak MD bT k 24 0 ⟨[(0, .pv (.sl 3 n ds)),(1, .pv (iv g)),(6, .pv aU),(7, .pv (.sl 3 r es)),(8, .pv (iv i))],[],[(.s 7,3)],[]⟩ [.c true, .a 23 x.cells, .r (one (.an [.ag y.cells,iv e])), .c false, .c false, .a 44 x.cells, .c false, .p (r+1) aK, .i 19 I]=
 some ((Xt.normal,St.mk [(0,AV.pv (PV.sl 3 n ds)),(1,AV.pv (iv g)),(6,AV.pv (PV.lit (Value.slice none 0 0))),(7,AV.pv (PV.sl 3 (r+1) aK)),(8,AV.pv (iv I))] [] [(Pl.s 7,3)] []),[],[decide ((↑i:Int)<(↑n:Int))=true,az ds 3 (↑i:Int) n x.cells,aa bT 19 [PV.ag x.cells] (RV.mk (PV.an [PV.ag y.cells,iv e]) none),(e !=(0:Int))=false,decide (y.h>(0:Int))=false,az ds 3 (↑i:Int) n x.cells,decide (x.v>(0:Int))=false,gA r 1 es y.cells 24 3 (r+1) aK,IntKind.i64.wrap ((↑i:Int)+(1:Int))=I]):=by kernel_rfl
theorem Up (k n i m r:Nat) (g:Int) (ds cs es aK:List PV) (x y:aj) (e j I:Int):ak MD bT k 24 0 ⟨[(0, .pv (.sl 3 n ds)),(1, .pv (iv g)),(6, .pv aU),(7, .pv (.sl 3 r es)),(8, .pv (iv i))],[],[(.s 7,3)],[]⟩ [.c true, .a 23 x.cells, .r (one (.an [.ag y.cells,iv e])), .c true]=
 some ((Xt.ret,St.mk [(4,AV.pv (PV.lit (Value.slice none 0 0))),(5,AV.pv (iv e))] [] [] []),[],[decide ((↑i:Int)<(↑n:Int))=true,az ds 3 (↑i:Int) n x.cells,aa bT 19 [PV.ag x.cells] (RV.mk (PV.an [PV.ag y.cells,iv e]) none),(e !=(0:Int))=true]):=by kernel_rfl
theorem Uq (k n i m r:Nat) (g:Int) (ds cs es aK:List PV) (x y:aj) (e j I:Int):ak MD bT k 24 0 ⟨[(0, .pv (.sl 3 n ds)),(1, .pv (iv g)),(6, .pv aU),(7, .pv (.sl 3 r es)),(8, .pv (iv i))],[],[(.s 7,3)],[]⟩ [.c false]=
 some ((Xt.exit 0,St.mk [(0,AV.pv (PV.sl 3 n ds)),(1,AV.pv (iv g)),(6,AV.pv (PV.lit (Value.slice none 0 0))),(7,AV.pv (PV.sl 3 r es)),(8,AV.pv (iv (↑i:Int))),(17,AV.pv (bv false))] [] [(Pl.s 7,3)] []),[],[decide ((↑i:Int)<(↑n:Int))=false]):=by kernel_rfl
theorem Ur (k n i m r:Nat) (g:Int) (ds cs es aK:List PV) (x y:aj) (e j I:Int):ay MD bT k 24 [.sl 3 n ds,iv g] [.c false, .l (.exit 0) ⟨[(0, .pv (.sl 3 n ds)),(1, .pv (iv g)),(6, .pv aU),(7, .pv (.sl 3 r es)),(8, .pv (iv i)),(17, .pv (bv false))],[],[(.s 7,3)],[]⟩, .c false]=
 some (RV.mk (PV.an [PV.sl 3 r es,iv (0:Int)]) none,[decide ((↑n:Int)>(100:Int))=false,aN MD bT k (24:Nat) (0:Nat) (St.mk [(0,AV.pv (PV.sl 3 n ds)),(1,AV.pv (iv g)),(6,AV.pv (PV.lit (Value.slice none 0 0))),(7,AV.pv (PV.lit (Value.slice none 0 0))),(8,AV.pv (iv (0:Int)))] [] [] []) (Xt.exit 0) (St.mk [(0,AV.pv (PV.sl 3 n ds)),(1,AV.pv (iv g)),(6,AV.pv (PV.lit (Value.slice none 0 0))),(7,AV.pv (PV.sl 3 r es)),(8,AV.pv (iv (↑i:Int))),(17,AV.pv (bv false))] [] [(Pl.s 7,3)] []),(0+(r,es).fst)* 24≤140737488355328∧0+(r,es).fst≤140737488355328,(r,es).snd.length=(r,es).fst* 3∧0=0,decide ((r,es).fst=(0:Nat))=false]):=by kernel_rfl
theorem P8 (k n i m r:Nat) (g:Int) (ds cs es aK:List PV) (x y:aj) (e j I:Int):ak MD bT k 24 0 ⟨[(0, .pv (.sl 3 n ds)),(1, .pv (iv g)),(6, .pv (.sl 3 m cs)),(7, .pv (.sl 3 r es)),(8, .pv (iv i))],[],[(.s 6,3),(.s 7,3)],[]⟩ [.c true, .a 23 x.cells, .r (one (.an [.ag y.cells,iv e])), .c false, .c true, .a 36 x.cells, .r (one (iv j)), .a 44 x.cells, .c true, .p (m+1) aK, .i 19 I]=
 some ((Xt.normal,St.mk [(0,AV.pv (PV.sl 3 n ds)),(1,AV.pv (iv g)),(6,AV.pv (PV.sl 3 (m+1) aK)),(7,AV.pv (PV.sl 3 r es)),(8,AV.pv (iv I))] [] [(Pl.s 6,3),(Pl.s 7,3)] []),[],[decide ((↑i:Int)<(↑n:Int))=true,az ds 3 (↑i:Int) n x.cells,aa bT 19 [PV.ag x.cells] (RV.mk (PV.an [PV.ag y.cells,iv e]) none),(e !=(0:Int))=false,decide (y.h>(0:Int))=true,az ds 3 (↑i:Int) n x.cells,aa bT 10 [iv x.i,iv g] (RV.mk (iv j) none),az ds 3 (↑i:Int) n x.cells,decide (x.v>(0:Int))=true,gA m 1 cs [iv y.h,iv y.v,iv j] 24 3 (m+1) aK,IntKind.i64.wrap ((↑i:Int)+(1:Int))=I]):=by kernel_rfl
theorem P7 (k n i m r:Nat) (g:Int) (ds cs es aK:List PV) (x y:aj) (e j I:Int):ak MD bT k 24 0 ⟨[(0, .pv (.sl 3 n ds)),(1, .pv (iv g)),(6, .pv (.sl 3 m cs)),(7, .pv (.sl 3 r es)),(8, .pv (iv i))],[],[(.s 6,3),(.s 7,3)],[]⟩ [.c true, .a 23 x.cells, .r (one (.an [.ag y.cells,iv e])), .c false, .c true, .a 36 x.cells, .r (one (iv j)), .a 44 x.cells, .c false, .p (r+1) aK, .i 19 I]=
 some ((Xt.normal,St.mk [(0,AV.pv (PV.sl 3 n ds)),(1,AV.pv (iv g)),(6,AV.pv (PV.sl 3 m cs)),(7,AV.pv (PV.sl 3 (r+1) aK)),(8,AV.pv (iv I))] [] [(Pl.s 6,3),(Pl.s 7,3)] []),[],[decide ((↑i:Int)<(↑n:Int))=true,az ds 3 (↑i:Int) n x.cells,aa bT 19 [PV.ag x.cells] (RV.mk (PV.an [PV.ag y.cells,iv e]) none),(e !=(0:Int))=false,decide (y.h>(0:Int))=true,az ds 3 (↑i:Int) n x.cells,aa bT 10 [iv x.i,iv g] (RV.mk (iv j) none),az ds 3 (↑i:Int) n x.cells,decide (x.v>(0:Int))=false,gA r 1 es [iv y.h,iv y.v,iv j] 24 3 (r+1) aK,IntKind.i64.wrap ((↑i:Int)+(1:Int))=I]):=by kernel_rfl
theorem P6 (k n i m r:Nat) (g:Int) (ds cs es aK:List PV) (x y:aj) (e j I:Int):ak MD bT k 24 0 ⟨[(0, .pv (.sl 3 n ds)),(1, .pv (iv g)),(6, .pv (.sl 3 m cs)),(7, .pv (.sl 3 r es)),(8, .pv (iv i))],[],[(.s 6,3),(.s 7,3)],[]⟩ [.c true, .a 23 x.cells, .r (one (.an [.ag y.cells,iv e])), .c false, .c false, .a 44 x.cells, .c true, .p (m+1) aK, .i 19 I]=
 some ((Xt.normal,St.mk [(0,AV.pv (PV.sl 3 n ds)),(1,AV.pv (iv g)),(6,AV.pv (PV.sl 3 (m+1) aK)),(7,AV.pv (PV.sl 3 r es)),(8,AV.pv (iv I))] [] [(Pl.s 6,3),(Pl.s 7,3)] []),[],[decide ((↑i:Int)<(↑n:Int))=true,az ds 3 (↑i:Int) n x.cells,aa bT 19 [PV.ag x.cells] (RV.mk (PV.an [PV.ag y.cells,iv e]) none),(e !=(0:Int))=false,decide (y.h>(0:Int))=false,az ds 3 (↑i:Int) n x.cells,decide (x.v>(0:Int))=true,gA m 1 cs y.cells 24 3 (m+1) aK,IntKind.i64.wrap ((↑i:Int)+(1:Int))=I]):=by kernel_rfl
theorem P5 (k n i m r:Nat) (g:Int) (ds cs es aK:List PV) (x y:aj) (e j I:Int):ak MD bT k 24 0 ⟨[(0, .pv (.sl 3 n ds)),(1, .pv (iv g)),(6, .pv (.sl 3 m cs)),(7, .pv (.sl 3 r es)),(8, .pv (iv i))],[],[(.s 6,3),(.s 7,3)],[]⟩ [.c true, .a 23 x.cells, .r (one (.an [.ag y.cells,iv e])), .c false, .c false, .a 44 x.cells, .c false, .p (r+1) aK, .i 19 I]=
 some ((Xt.normal,St.mk [(0,AV.pv (PV.sl 3 n ds)),(1,AV.pv (iv g)),(6,AV.pv (PV.sl 3 m cs)),(7,AV.pv (PV.sl 3 (r+1) aK)),(8,AV.pv (iv I))] [] [(Pl.s 6,3),(Pl.s 7,3)] []),[],[decide ((↑i:Int)<(↑n:Int))=true,az ds 3 (↑i:Int) n x.cells,aa bT 19 [PV.ag x.cells] (RV.mk (PV.an [PV.ag y.cells,iv e]) none),(e !=(0:Int))=false,decide (y.h>(0:Int))=false,az ds 3 (↑i:Int) n x.cells,decide (x.v>(0:Int))=false,gA r 1 es y.cells 24 3 (r+1) aK,IntKind.i64.wrap ((↑i:Int)+(1:Int))=I]):=by kernel_rfl
theorem Us (k n i m r:Nat) (g:Int) (ds cs es aK:List PV) (x y:aj) (e j I:Int):ak MD bT k 24 0 ⟨[(0, .pv (.sl 3 n ds)),(1, .pv (iv g)),(6, .pv (.sl 3 m cs)),(7, .pv (.sl 3 r es)),(8, .pv (iv i))],[],[(.s 6,3),(.s 7,3)],[]⟩ [.c true, .a 23 x.cells, .r (one (.an [.ag y.cells,iv e])), .c true]=
 some ((Xt.ret,St.mk [(4,AV.pv (PV.lit (Value.slice none 0 0))),(5,AV.pv (iv e))] [] [] []),[],[decide ((↑i:Int)<(↑n:Int))=true,az ds 3 (↑i:Int) n x.cells,aa bT 19 [PV.ag x.cells] (RV.mk (PV.an [PV.ag y.cells,iv e]) none),(e !=(0:Int))=true]):=by kernel_rfl
theorem Ut (k n i m r:Nat) (g:Int) (ds cs es aK:List PV) (x y:aj) (e j I:Int):ak MD bT k 24 0 ⟨[(0, .pv (.sl 3 n ds)),(1, .pv (iv g)),(6, .pv (.sl 3 m cs)),(7, .pv (.sl 3 r es)),(8, .pv (iv i))],[],[(.s 6,3),(.s 7,3)],[]⟩ [.c false]=
 some ((Xt.exit 0,St.mk [(0,AV.pv (PV.sl 3 n ds)),(1,AV.pv (iv g)),(6,AV.pv (PV.sl 3 m cs)),(7,AV.pv (PV.sl 3 r es)),(8,AV.pv (iv (↑i:Int))),(17,AV.pv (bv false))] [] [(Pl.s 6,3),(Pl.s 7,3)] []),[],[decide ((↑i:Int)<(↑n:Int))=false]):=by kernel_rfl
theorem Uu (k n i m r:Nat) (g:Int) (ds cs es aK:List PV) (x y:aj) (e j I:Int):ay MD bT k 24 [.sl 3 n ds,iv g] [.c false, .l (.exit 0) ⟨[(0, .pv (.sl 3 n ds)),(1, .pv (iv g)),(6, .pv (.sl 3 m cs)),(7, .pv (.sl 3 r es)),(8, .pv (iv i)),(17, .pv (bv false))],[],[(.s 6,3),(.s 7,3)],[]⟩, .p (m+r) aK]=
 some (RV.mk (PV.an [PV.sl 3 (m+r) aK,iv (0:Int)]) none,[decide ((↑n:Int)>(100:Int))=false,aN MD bT k (24:Nat) (0:Nat) (St.mk [(0,AV.pv (PV.sl 3 n ds)),(1,AV.pv (iv g)),(6,AV.pv (PV.lit (Value.slice none 0 0))),(7,AV.pv (PV.lit (Value.slice none 0 0))),(8,AV.pv (iv (0:Int)))] [] [] []) (Xt.exit 0) (St.mk [(0,AV.pv (PV.sl 3 n ds)),(1,AV.pv (iv g)),(6,AV.pv (PV.sl 3 m cs)),(7,AV.pv (PV.sl 3 r es)),(8,AV.pv (iv (↑i:Int))),(17,AV.pv (bv false))] [] [(Pl.s 6,3),(Pl.s 7,3)] []),gA m r cs es 24 3 (m+r) aK]):=by kernel_rfl
theorem zqM (k n:Nat) (g:Int) (ds:List PV):ay MD bT k 24 [.sl 3 n ds,iv g] [.c true]=
 some (RV.mk (PV.an [PV.lit (Value.slice none 0 0),iv (3:Int)]) none,[decide ((↑n:Int)>(100:Int))=true]):=by kernel_rfl
theorem zqN (k n:Nat) (g e:Int) (ds:List PV):ay MD bT k 24 [.sl 3 n ds,iv g] [.c false, .l .ret ⟨[(4, .pv aU),(5, .pv (iv e))],[],[],[]⟩]=
 some (RV.mk (PV.an [PV.lit (Value.slice none 0 0),iv e]) none,[decide ((↑n:Int)>(100:Int))=false,aN MD bT k (24:Nat) (0:Nat) (St.mk [(0,AV.pv (PV.sl 3 n ds)),(1,AV.pv (iv g)),(6,AV.pv (PV.lit (Value.slice none 0 0))),(7,AV.pv (PV.lit (Value.slice none 0 0))),(8,AV.pv (iv (0:Int)))] [] [] []) Xt.ret (St.mk [(4,AV.pv (PV.lit (Value.slice none 0 0))),(5,AV.pv (iv e))] [] [] [])]):=by kernel_rfl
end Go.Proofs.YtibbgjafjhcemaaDoor.Cul
namespace Go.Proofs.YtibbgjafjhcemaaDoor.Cul
open Go Go.RowKit
theorem Oj:∀ms r cs',stM ms=some (r,cs')→dy P0 62 ms r cs':=kH fun l h=>GV l h
theorem Oi {l:List aj} (h:l.length<2^60):stM [.g (aq l) 0 3 l.length, .p (iv l.length), .p aX]=some (.pv (.an []),aq (ss kS l)):=
 kG (pre:=fun l:List aj=>l.length<2^60) (a:=l) (enc:=fun l:List aj=>[.g (aq l) 0 3 l.length, .p (iv l.length), .p aX]) (g:=fun l=>(.pv (.an []),aq (ss kS l))) (fun a b e=>by
  simp only [List.cons.injEq,and_true,MA.g.injEq,MA.p.injEq] at e
  rw [lB e.1.1]) h
theorem PJ:aP MD.P v8:=j3 aL (gm Oj jf)
theorem K0 (l:List aj) (h:l.length<2^60):dy P0 41 [.g (aq l) 0 3 l.length, .p aX] (.pv (.an [])) (aq (ss kS l)):=
 eu ah PJ (by rfl) (zpA 1 l.length (aq l) (aq (ss kS l))) ⟨iw _,by rw [cM,cM,dm],Oi h,trivial⟩
theorem Oe:∀ms r cs',Oc ms=some (r,cs')→dy P0 41 ms r cs':=kH fun l h=>K0 l h
theorem Od {l:List aj} (h:l.length<2^60):Oc [.g (aq l) 0 3 l.length, .p aX]=some (.pv (.an []),aq (ss kS l)):=
 kG (pre:=fun l:List aj=>l.length<2^60) (a:=l) (enc:=fun l:List aj=>[.g (aq l) 0 3 l.length, .p aX]) (g:=fun l=>(.pv (.an []),aq (ss kS l))) (fun a b e=>by
  simp only [List.cons.injEq,and_true,MA.g.injEq,MA.p.injEq] at e
  rw [lB e.1]) h
theorem Kj:aA P0 79 [aU,iv 0,iv 0,aX] (one (.an [])):=ai ah (aO aL) (by rfl) (zpB 1) ⟨Nat.le_refl _,rfl,trivial⟩
theorem M5:QV [aU,iv 0,iv 0,aX]=some (one (.an [])):=bl (enc:=fun _:Unit=>[aU,iv 0,iv 0,aX]) (a:=()) (fun _ _ _=>rfl) trivial
theorem PK:aP MD.P v9:=aO (au (aE fun _ _=>Kj) aL)
theorem Ol:aA P0 62 [aU,iv 0,aX] (one (.an [])):=ai ah PK (by rfl) (zpC 1) ⟨Nat.le_refl _,rfl,M5,Nat.le_refl _,rfl,trivial⟩
theorem Ok:Rg [aU,iv 0,aX]=some (one (.an [])):=bl (enc:=fun _:Unit=>[aU,iv 0,aX]) (a:=()) (fun _ _ _=>rfl) trivial
theorem OI:aP MD.P v10:=aO (au (aE fun _ _=>Ol) aL)
theorem Og:aA P0 41 [aU,aX] (one (.an [])):=ai ah OI (by rfl) (zpD 1) ⟨Ok,trivial⟩
theorem Of:Rf [aU,aX]=some (one (.an [])):=bl (enc:=fun _:Unit=>[aU,aX]) (a:=()) (fun _ _ _=>rfl) trivial
theorem cB (s:aj):D7 [.ag s.cells]=some (one (.an [.ag s.over.1.cells,iv s.over.2])):=bl (enc:=fun s:aj=>[.ag s.cells]) (q6 fun _ _=>aj.bG) trivial
theorem Bg:aP MD.P v11:=j3 (au (aE fun s _=>qu s) (au (iy qb) aL)) (gm Oe jf)
theorem OK:aP MD.P OJ:=aO (au (aE fun s _=>qu s) (au (iy qb) (au (aE fun _ _=>Og) aL)))
theorem bO {l:List aj} {i:Nat} {x:aj} (h:l[i]? =some x):az (aq l) 3 (i:Int) l.length x.cells:=by
 have hi:i<l.length:=(List.getElem?_eq_some_iff.1 h).1
 exact ⟨⟨by omega,by omega⟩,by rw [Int.toNat_natCast];exact uG mA h⟩
theorem tf (l m:List aj):aq l++aq m=aq (l++m):=by simp [aq,ac]
theorem xu (x:aj):aq [x]=x.cells:=by simp [aq,ac]
def ew (g:Int) (x:aj):aj:=if x.over.1.h>0 then ⟨x.over.1.h,x.over.1.v,(g - x.i)%24⟩ else x.over.1
abbrev YE (n:Nat) (g:Int) (ds:List PV) (i:Nat):St:=⟨[(1, .pv (iv g)),(6, .pv aU),(15, .pv (.sl 3 n ds)),(16, .pv (iv n)),(17, .pv (iv i))],[],[],[]⟩
abbrev Re (n:Nat) (g:Int) (ds:List PV) (m:Nat) (cs:List PV) (i:Nat):St:=⟨[(1, .pv (iv g)),(6, .pv (.sl 3 m cs)),(15, .pv (.sl 3 n ds)),(16, .pv (iv n)),(17, .pv (iv i))],[],[(.s 6,3)],[]⟩
def A3 (n:Nat) (g:Int) (ds:List PV) (M:List aj) (i:Nat):St:=match M with
 |[]=>YE n g ds i
 |_::_=>Re n g ds M.length (aq M) i
theorem IB (n:Nat) (g:Int) (ds:List PV) (M:List aj) (e:aj) (i:Nat):A3 n g ds (M++[e]) i=Re n g ds (M.length+1) (aq (M++[e])) i:=by
 cases M<;>simp [A3]
theorem Po {k i:Nat} {l M:List aj} {g:Int} {x:aj} (hx:l[i]? =some x) (h0:x.over.2=0) (hM:M.length=i) (hl:l.length≤100):
  aI MD v11 k 23 0 (A3 l.length g (aq l) M i)=some (.normal,A3 l.length g (aq l) (M++[ew g x]) (i+1)):=by
 have hi:i<l.length:=(List.getElem?_eq_some_iff.1 hx).1
 have w:IntKind.i64.wrap ((i:Int)+1)=((i+1:Nat):Int):=bu (by omega) (by omega) (by omega)
 have he:(x.over.2 !=(0:Int))=false:=by rw [h0];rfl
 rw [IB]
 cases M with
 |nil=>
  by_cases h:x.over.1.h>0
  · have e:ew g x=⟨x.over.1.h,x.over.1.v,(g - x.i)%24⟩:=if_pos h
    rw [e]
    exact af (zpE k l.length i 0 g (aq l) [] [] x x.over.1 x.over.2 ((g - x.i)%24) (i+1:Nat)) ⟨decide_eq_true (by omega),bO hx,cB x,he,decide_eq_true h,rfl,by decide,⟨rfl,rfl⟩,by rfl,w,trivial⟩
  · have e:ew g x=x.over.1:=if_neg h
    rw [e]
    exact af (zpF k l.length i 0 g (aq l) [] [] x x.over.1 x.over.2 0 (i+1:Nat)) ⟨decide_eq_true (by omega),bO hx,cB x,he,decide_eq_false h,by decide,⟨rfl,rfl⟩,by rfl,w,trivial⟩
 |cons z M=>
  have hb:((z::M).length+1)* 24≤room∧(z::M).length+1≤room:=by
   have:room=140737488355328:=rfl
   rw [this];omega
  by_cases h:x.over.1.h>0
  · have e:ew g x=⟨x.over.1.h,x.over.1.v,(g - x.i)%24⟩:=if_pos h
    rw [e]
    exact af (zpG k l.length i (z::M).length g (aq l) (aq (z::M)) (aq ((z::M)++[(⟨x.over.1.h,x.over.1.v,(g - x.i)%24⟩:aj)])) x x.over.1 x.over.2 ((g - x.i)%24) (i+1:Nat)) ⟨decide_eq_true (by omega),bO hx,cB x,he,decide_eq_true h,rfl,⟨⟨rfl,by rw [←tf,xu];rfl⟩,hb,rfl,cM _⟩,w,trivial⟩
  · have e:ew g x=x.over.1:=if_neg h
    rw [e]
    exact af (zpH k l.length i (z::M).length g (aq l) (aq (z::M)) (aq ((z::M)++[x.over.1])) x x.over.1 x.over.2 0 (i+1:Nat)) ⟨decide_eq_true (by omega),bO hx,cB x,he,decide_eq_false h,⟨⟨rfl,by rw [←tf,xu]⟩,hb,rfl,cM _⟩,w,trivial⟩
theorem N7 {k i:Nat} {l M:List aj} {g:Int} {x:aj} (hx:l[i]? =some x) (h0:x.over.2≠0):
  aI MD v11 k 23 0 (A3 l.length g (aq l) M i)=some (.ret,⟨[(4, .pv aU),(5, .pv (iv x.over.2))],[],[],[]⟩):=by
 have hi:i<l.length:=(List.getElem?_eq_some_iff.1 hx).1
 have he:(x.over.2 !=(0:Int))=true:=by simpa using h0
 cases M with
 |nil=>exact af (zpI k l.length i 0 g (aq l) [] [] x x.over.1 x.over.2 0 0) ⟨decide_eq_true (by omega),bO hx,cB x,he,trivial⟩
 |cons z M=>exact af (zpJ k l.length i (z::M).length g (aq l) (aq (z::M)) [] x x.over.1 x.over.2 0 0) ⟨decide_eq_true (by omega),bO hx,cB x,he,trivial⟩
end Go.Proofs.YtibbgjafjhcemaaDoor.Cul
namespace Go.Proofs.YtibbgjafjhcemaaDoor.Cul
open Go Go.RowKit
def N5 (n:Nat) (g:Int) (ds:List PV) (M:List aj) (i:Nat):St:=match M with
 |[]=>⟨[(1, .pv (iv g)),(6, .pv aU),(15, .pv (.sl 3 n ds)),(16, .pv (iv n)),(17, .pv (iv i)),(18, .pv (bv false))],[],[],[]⟩
 |_::_=>⟨[(1, .pv (iv g)),(6, .pv (.sl 3 M.length (aq M))),(15, .pv (.sl 3 n ds)),(16, .pv (iv n)),(17, .pv (iv i)),(18, .pv (bv false))],[],[(.s 6,3)],[]⟩
theorem KX {k:Nat} {l M:List aj} {g:Int}:aI MD v11 k 23 0 (A3 l.length g (aq l) M l.length)=some (.exit 0,N5 l.length g (aq l) M l.length):=by
 cases M with
 |nil=>exact af (zpK k l.length l.length 0 g (aq l) [] [] aj.zero aj.zero 0 0 0) ⟨decide_eq_false (by omega),trivial⟩
 |cons z M=>exact af (zpL k l.length l.length (z::M).length g (aq l) (aq (z::M)) [] aj.zero aj.zero 0 0 0) ⟨decide_eq_false (by omega),trivial⟩
theorem CJ {k:Nat} {l:List aj} {g:Int} (hl:l.length≤100):∀(L2 L1:List aj),l=L1++L2→
  aR (aI MD v11 k 23 0) (L2.length+1) (A3 l.length g (aq l) (L1.map (ew g)) L1.length)=
   if L2.all aj.ok then some (.exit 0,N5 l.length g (aq l) (l.map (ew g)) l.length) else some (.ret,⟨[(4, .pv aU),(5, .pv (iv 1))],[],[],[]⟩)
 |[],L1,e=>by
  have e':L1=l:=by simpa using e.symm
  subst e'
  exact aF KX (by simp)
 |x::L2,L1,e=>by
  have hx:l[L1.length]? =some x:=by rw [e];exact dA _ _ _
  cases hk:x.ok with
  |true=>
   have h0:x.over.2=0:=by unfold aj.over;rw [hk];rfl
   have r:=Po (k:=k) (M:=L1.map (ew g)) (g:=g) hx h0 (by simp) hl
   have ih:=CJ (k:=k) (g:=g) hl L2 (L1++[x]) (by rw [e];simp)
   simp only [List.map_append,List.map_cons,List.map_nil,List.length_append,List.length_singleton] at ih
   rw [List.all_cons,hk,Bool.true_and,←ih]
   rw [List.length_cons,aR,r]
   rfl
  |false=>
   have h1:x.over.2=1:=by unfold aj.over;rw [hk];rfl
   have r:=N7 (k:=k) (M:=L1.map (ew g)) (g:=g) hx (by rw [h1];decide)
   rw [h1] at r
   rw [List.all_cons,hk,Bool.false_and]
   exact aF r (by simp)
def jL (M:List aj):PV:=match M with
 |[]=>aU
 |_::_=> .sl 3 M.length (aq M)
def jB (g:Int) (l:List aj):RV:=if l.length>100 then one (.an [aU,iv 3]) else if l.all aj.ok then one (.an [jL (ss kS (l.map (ew g))),iv 0]) else one (.an [aU,iv 1])
theorem lC {M:List aj} (h:0<M.length):jL M= .sl 3 M.length (aq M):=by
 cases M with
 |nil=>simp at h
 |cons z M=>rfl
theorem N6 {n:Nat} {g:Int} {ds:List PV} {M:List aj} {i:Nat} (h:0<M.length):N5 n g ds M i=⟨[(1, .pv (iv g)),(6, .pv (.sl 3 M.length (aq M))),(15, .pv (.sl 3 n ds)),(16, .pv (iv n)),(17, .pv (iv i)),(18, .pv (bv false))],[],[(.s 6,3)],[]⟩:=by
 cases M with
 |nil=>simp at h
 |cons z M=>rfl
theorem IC (g:Int) (l:List aj):aA P0 23 [.sl 3 l.length (aq l),iv g] (jB g l):=by
 unfold jB
 by_cases h:l.length>100
 · rw [if_pos h]
   exact ai ah Bg (by rfl) (zpM 1 l.length g (aq l)) ⟨decide_eq_true (by omega),trivial⟩
 · rw [if_neg h]
   have lp:=CJ (k:=l.length+1) (g:=g) (l:=l) (by omega) l [] rfl
   cases ha:l.all aj.ok with
   |false=>
    rw [ha] at lp
    exact ai ah Bg (by rfl) (zpN (l.length+1) l.length g 1 (aq l)) ⟨decide_eq_false (by omega),lp,trivial⟩
   |true=>
    rw [ha] at lp
    rcases l9 l with rfl|h0
    · exact ai ah OK (by rfl) (zpP 1 0 g []) ⟨rfl,Nat.le_refl _,rfl,Of,trivial⟩
    · simp only [if_true] at lp ⊢
      rw [N6 (by simpa using h0)] at lp
      have hm:(l.map (ew g)).length=l.length:=by simp
      rw [lC (by rw [dm,hm];exact h0),dm]
      exact ai ah Bg (by rfl) (zpO (l.length+1) l.length (l.map (ew g)).length l.length g (aq l) (aq (l.map (ew g))) (aq (ss kS (l.map (ew g))))) ⟨decide_eq_false (by omega),lp,iw _,Od (by omega),by
       unfold de;rw [List.drop_zero,List.take_of_length_le (by rw [cM,dm];omega)],trivial⟩
end Go.Proofs.YtibbgjafjhcemaaDoor.Cul
namespace Go.Proofs.YtibbgjafjhcemaaDoor.Cul
open Go Go.RowKit
theorem me (a b:Int):DG [iv a,iv b]=some (one (iv ((b - a)%24))):=rfl
theorem pJ:aP MD.P bT:=aO (au (aE fun s _=>tN s) (au (iy tK) aL))
abbrev qA (n:Nat) (g:Int) (ds:List PV) (i:Nat):St:=⟨[(0, .pv (.sl 3 n ds)),(1, .pv (iv g)),(6, .pv aU),(7, .pv aU),(8, .pv (iv i))],[],[],[]⟩
abbrev qB (n:Nat) (g:Int) (ds:List PV) (m:Nat) (cs:List PV) (i:Nat):St:=⟨[(0, .pv (.sl 3 n ds)),(1, .pv (iv g)),(6, .pv (.sl 3 m cs)),(7, .pv aU),(8, .pv (iv i))],[],[(.s 6,3)],[]⟩
abbrev qC (n:Nat) (g:Int) (ds:List PV) (r:Nat) (es:List PV) (i:Nat):St:=⟨[(0, .pv (.sl 3 n ds)),(1, .pv (iv g)),(6, .pv aU),(7, .pv (.sl 3 r es)),(8, .pv (iv i))],[],[(.s 7,3)],[]⟩
abbrev qD (n:Nat) (g:Int) (ds:List PV) (m:Nat) (cs:List PV) (r:Nat) (es:List PV) (i:Nat):St:=⟨[(0, .pv (.sl 3 n ds)),(1, .pv (iv g)),(6, .pv (.sl 3 m cs)),(7, .pv (.sl 3 r es)),(8, .pv (iv i))],[],[(.s 6,3),(.s 7,3)],[]⟩
def qS (n:Nat) (g:Int) (ds:List PV) (T R:List aj) (i:Nat):St:=match T,R with
 |[],[]=>qA n g ds i
 |_::_,[]=>qB n g ds T.length (aq T) i
 |[],_::_=>qC n g ds R.length (aq R) i
 |_::_,_::_=>qD n g ds T.length (aq T) R.length (aq R) i
theorem NI (n:Nat) (g:Int) (ds:List PV) (T:List aj) (e:aj) (i:Nat):qS n g ds (T++[e]) [] i=qB n g ds (T.length+1) (aq (T++[e])) i:=by cases T<;>simp [qS]
theorem NJ (n:Nat) (g:Int) (ds:List PV) (R:List aj) (e:aj) (i:Nat):qS n g ds [] (R++[e]) i=qC n g ds (R.length+1) (aq (R++[e])) i:=by cases R<;>simp [qS]
theorem Jv (n:Nat) (g:Int) (ds:List PV) (T:List aj) (z:aj) (R:List aj) (e:aj) (i:Nat):qS n g ds (T++[e]) (z::R) i=qD n g ds (T.length+1) (aq (T++[e])) (z::R).length (aq (z::R)) i:=by cases T<;>simp [qS]
theorem Jw (n:Nat) (g:Int) (ds:List PV) (z:aj) (T R:List aj) (e:aj) (i:Nat):qS n g ds (z::T) (R++[e]) i=qD n g ds (z::T).length (aq (z::T)) (R.length+1) (aq (R++[e])) i:=by cases R<;>simp [qS]
def qN (n:Nat) (g:Int) (ds:List PV) (T R:List aj) (x:aj) (i:Nat):St:=if x.v>0 then qS n g ds (T++[ew g x]) R i else qS n g ds T (R++[ew g x]) i
theorem lP {M:List aj} (e:aj) (h:M.length≤100):gA M.length 1 (aq M) e.cells 24 3 (M.length+1) (aq (M++[e])):=by
 refine ⟨⟨rfl,by rw [←tf,xu]⟩, ?_,rfl,cM _⟩
 have:room=140737488355328:=rfl
 rw [this];omega
theorem KH {k i:Nat} {l:List aj} {g:Int} {x:aj} (hx:l[i]? =some x) (h0:x.over.2=0) (hM:0=i) (hl:l.length≤100):
  aI MD bT k 24 0 (qS l.length g (aq l) [] [] i)=some (.normal,qN l.length g (aq l) [] [] x (i+1)):=by
 have hi:i<l.length:=(List.getElem?_eq_some_iff.1 hx).1
 have w:IntKind.i64.wrap ((i:Int)+1)=((i+1:Nat):Int):=bu (by omega) (by omega) (by omega)
 have he:(x.over.2 !=(0:Int))=false:=by rw [h0];rfl
 unfold qN
 by_cases hv:x.v>0
 · rw [if_pos hv,NI l.length g (aq l) []]
   by_cases h:x.over.1.h>0
   · have e:ew g x=(⟨x.over.1.h,x.over.1.v,(g - x.i)%24⟩:aj):=if_pos h
     rw [e]
     exact af (PU k l.length i 0 0 g (aq l) [] [] [] x x.over.1 x.over.2 ((g - x.i)%24) (i+1:Nat)) ⟨decide_eq_true (by omega),bO hx,cB x,he,decide_eq_true h,bO hx,me _ _,bO hx,decide_eq_true hv,by decide,⟨rfl,rfl⟩,by rfl,w,trivial⟩
   · have e:ew g x=x.over.1:=if_neg h
     rw [e]
     exact af (PR k l.length i 0 0 g (aq l) [] [] [] x x.over.1 x.over.2 ((g - x.i)%24) (i+1:Nat)) ⟨decide_eq_true (by omega),bO hx,cB x,he,decide_eq_false h,bO hx,decide_eq_true hv,by decide,⟨rfl,rfl⟩,by rfl,w,trivial⟩
 · rw [if_neg hv,NJ l.length g (aq l) []]
   by_cases h:x.over.1.h>0
   · have e:ew g x=(⟨x.over.1.h,x.over.1.v,(g - x.i)%24⟩:aj):=if_pos h
     rw [e]
     exact af (PS k l.length i 0 0 g (aq l) [] [] [] x x.over.1 x.over.2 ((g - x.i)%24) (i+1:Nat)) ⟨decide_eq_true (by omega),bO hx,cB x,he,decide_eq_true h,bO hx,me _ _,bO hx,decide_eq_false hv,by decide,⟨rfl,rfl⟩,by rfl,w,trivial⟩
   · have e:ew g x=x.over.1:=if_neg h
     rw [e]
     exact af (PO k l.length i 0 0 g (aq l) [] [] [] x x.over.1 x.over.2 ((g - x.i)%24) (i+1:Nat)) ⟨decide_eq_true (by omega),bO hx,cB x,he,decide_eq_false h,bO hx,decide_eq_false hv,by decide,⟨rfl,rfl⟩,by rfl,w,trivial⟩
theorem KI {k i:Nat} {l:List aj} {g:Int} {x:aj} {z:aj} {T:List aj} (hx:l[i]? =some x) (h0:x.over.2=0) (hM:(z::T).length=i) (hl:l.length≤100):
  aI MD bT k 24 0 (qS l.length g (aq l) (z::T) [] i)=some (.normal,qN l.length g (aq l) (z::T) [] x (i+1)):=by
 have hi:i<l.length:=(List.getElem?_eq_some_iff.1 hx).1
 have w:IntKind.i64.wrap ((i:Int)+1)=((i+1:Nat):Int):=bu (by omega) (by omega) (by omega)
 have he:(x.over.2 !=(0:Int))=false:=by rw [h0];rfl
 unfold qN
 by_cases hv:x.v>0
 · rw [if_pos hv,NI l.length g (aq l) (z::T)]
   by_cases h:x.over.1.h>0
   · have e:ew g x=(⟨x.over.1.h,x.over.1.v,(g - x.i)%24⟩:aj):=if_pos h
     rw [e]
     exact af (PZ k l.length i ((z::T).length) 0 g (aq l) (aq (z::T)) [] (aq ((z::T)++[(⟨x.over.1.h,x.over.1.v,(g - x.i)%24⟩:aj)])) x x.over.1 x.over.2 ((g - x.i)%24) (i+1:Nat)) ⟨decide_eq_true (by omega),bO hx,cB x,he,decide_eq_true h,bO hx,me _ _,bO hx,decide_eq_true hv,lP (M:=(z::T)) (⟨x.over.1.h,x.over.1.v,(g - x.i)%24⟩:aj) (by simp only [List.length_cons] at hM ⊢;omega),w,trivial⟩
   · have e:ew g x=x.over.1:=if_neg h
     rw [e]
     exact af (PX k l.length i ((z::T).length) 0 g (aq l) (aq (z::T)) [] (aq ((z::T)++[x.over.1])) x x.over.1 x.over.2 ((g - x.i)%24) (i+1:Nat)) ⟨decide_eq_true (by omega),bO hx,cB x,he,decide_eq_false h,bO hx,decide_eq_true hv,lP (M:=(z::T)) x.over.1 (by simp only [List.length_cons] at hM ⊢;omega),w,trivial⟩
 · rw [if_neg hv,Jw l.length g (aq l) z T []]
   by_cases h:x.over.1.h>0
   · have e:ew g x=(⟨x.over.1.h,x.over.1.v,(g - x.i)%24⟩:aj):=if_pos h
     rw [e]
     exact af (PY k l.length i ((z::T).length) 0 g (aq l) (aq (z::T)) [] [] x x.over.1 x.over.2 ((g - x.i)%24) (i+1:Nat)) ⟨decide_eq_true (by omega),bO hx,cB x,he,decide_eq_true h,bO hx,me _ _,bO hx,decide_eq_false hv,by decide,⟨rfl,rfl⟩,by rfl,w,trivial⟩
   · have e:ew g x=x.over.1:=if_neg h
     rw [e]
     exact af (PW k l.length i ((z::T).length) 0 g (aq l) (aq (z::T)) [] [] x x.over.1 x.over.2 ((g - x.i)%24) (i+1:Nat)) ⟨decide_eq_true (by omega),bO hx,cB x,he,decide_eq_false h,bO hx,decide_eq_false hv,by decide,⟨rfl,rfl⟩,by rfl,w,trivial⟩
theorem KJ {k i:Nat} {l:List aj} {g:Int} {x:aj} {y:aj} {R:List aj} (hx:l[i]? =some x) (h0:x.over.2=0) (hM:(y::R).length=i) (hl:l.length≤100):
  aI MD bT k 24 0 (qS l.length g (aq l) [] (y::R) i)=some (.normal,qN l.length g (aq l) [] (y::R) x (i+1)):=by
 have hi:i<l.length:=(List.getElem?_eq_some_iff.1 hx).1
 have w:IntKind.i64.wrap ((i:Int)+1)=((i+1:Nat):Int):=bu (by omega) (by omega) (by omega)
 have he:(x.over.2 !=(0:Int))=false:=by rw [h0];rfl
 unfold qN
 by_cases hv:x.v>0
 · rw [if_pos hv,Jv l.length g (aq l) [] y R]
   by_cases h:x.over.1.h>0
   · have e:ew g x=(⟨x.over.1.h,x.over.1.v,(g - x.i)%24⟩:aj):=if_pos h
     rw [e]
     exact af (P4 k l.length i 0 ((y::R).length) g (aq l) [] (aq (y::R)) [] x x.over.1 x.over.2 ((g - x.i)%24) (i+1:Nat)) ⟨decide_eq_true (by omega),bO hx,cB x,he,decide_eq_true h,bO hx,me _ _,bO hx,decide_eq_true hv,by decide,⟨rfl,rfl⟩,by rfl,w,trivial⟩
   · have e:ew g x=x.over.1:=if_neg h
     rw [e]
     exact af (P2 k l.length i 0 ((y::R).length) g (aq l) [] (aq (y::R)) [] x x.over.1 x.over.2 ((g - x.i)%24) (i+1:Nat)) ⟨decide_eq_true (by omega),bO hx,cB x,he,decide_eq_false h,bO hx,decide_eq_true hv,by decide,⟨rfl,rfl⟩,by rfl,w,trivial⟩
 · rw [if_neg hv,NJ l.length g (aq l) (y::R)]
   by_cases h:x.over.1.h>0
   · have e:ew g x=(⟨x.over.1.h,x.over.1.v,(g - x.i)%24⟩:aj):=if_pos h
     rw [e]
     exact af (P3 k l.length i 0 ((y::R).length) g (aq l) [] (aq (y::R)) (aq ((y::R)++[(⟨x.over.1.h,x.over.1.v,(g - x.i)%24⟩:aj)])) x x.over.1 x.over.2 ((g - x.i)%24) (i+1:Nat)) ⟨decide_eq_true (by omega),bO hx,cB x,he,decide_eq_true h,bO hx,me _ _,bO hx,decide_eq_false hv,lP (M:=(y::R)) (⟨x.over.1.h,x.over.1.v,(g - x.i)%24⟩:aj) (by simp only [List.length_cons] at hM ⊢;omega),w,trivial⟩
   · have e:ew g x=x.over.1:=if_neg h
     rw [e]
     exact af (P1 k l.length i 0 ((y::R).length) g (aq l) [] (aq (y::R)) (aq ((y::R)++[x.over.1])) x x.over.1 x.over.2 ((g - x.i)%24) (i+1:Nat)) ⟨decide_eq_true (by omega),bO hx,cB x,he,decide_eq_false h,bO hx,decide_eq_false hv,lP (M:=(y::R)) x.over.1 (by simp only [List.length_cons] at hM ⊢;omega),w,trivial⟩
theorem KK {k i:Nat} {l:List aj} {g:Int} {x:aj} {z:aj} {T:List aj} {y:aj} {R:List aj} (hx:l[i]? =some x) (h0:x.over.2=0) (hM:(z::T).length+(y::R).length=i) (hl:l.length≤100):
  aI MD bT k 24 0 (qS l.length g (aq l) (z::T) (y::R) i)=some (.normal,qN l.length g (aq l) (z::T) (y::R) x (i+1)):=by
 have hi:i<l.length:=(List.getElem?_eq_some_iff.1 hx).1
 have w:IntKind.i64.wrap ((i:Int)+1)=((i+1:Nat):Int):=bu (by omega) (by omega) (by omega)
 have he:(x.over.2 !=(0:Int))=false:=by rw [h0];rfl
 unfold qN
 by_cases hv:x.v>0
 · rw [if_pos hv,Jv l.length g (aq l) (z::T) y R]
   by_cases h:x.over.1.h>0
   · have e:ew g x=(⟨x.over.1.h,x.over.1.v,(g - x.i)%24⟩:aj):=if_pos h
     rw [e]
     exact af (P8 k l.length i ((z::T).length) ((y::R).length) g (aq l) (aq (z::T)) (aq (y::R)) (aq ((z::T)++[(⟨x.over.1.h,x.over.1.v,(g - x.i)%24⟩:aj)])) x x.over.1 x.over.2 ((g - x.i)%24) (i+1:Nat)) ⟨decide_eq_true (by omega),bO hx,cB x,he,decide_eq_true h,bO hx,me _ _,bO hx,decide_eq_true hv,lP (M:=(z::T)) (⟨x.over.1.h,x.over.1.v,(g - x.i)%24⟩:aj) (by simp only [List.length_cons] at hM ⊢;omega),w,trivial⟩
   · have e:ew g x=x.over.1:=if_neg h
     rw [e]
     exact af (P6 k l.length i ((z::T).length) ((y::R).length) g (aq l) (aq (z::T)) (aq (y::R)) (aq ((z::T)++[x.over.1])) x x.over.1 x.over.2 ((g - x.i)%24) (i+1:Nat)) ⟨decide_eq_true (by omega),bO hx,cB x,he,decide_eq_false h,bO hx,decide_eq_true hv,lP (M:=(z::T)) x.over.1 (by simp only [List.length_cons] at hM ⊢;omega),w,trivial⟩
 · rw [if_neg hv,Jw l.length g (aq l) z T (y::R)]
   by_cases h:x.over.1.h>0
   · have e:ew g x=(⟨x.over.1.h,x.over.1.v,(g - x.i)%24⟩:aj):=if_pos h
     rw [e]
     exact af (P7 k l.length i ((z::T).length) ((y::R).length) g (aq l) (aq (z::T)) (aq (y::R)) (aq ((y::R)++[(⟨x.over.1.h,x.over.1.v,(g - x.i)%24⟩:aj)])) x x.over.1 x.over.2 ((g - x.i)%24) (i+1:Nat)) ⟨decide_eq_true (by omega),bO hx,cB x,he,decide_eq_true h,bO hx,me _ _,bO hx,decide_eq_false hv,lP (M:=(y::R)) (⟨x.over.1.h,x.over.1.v,(g - x.i)%24⟩:aj) (by simp only [List.length_cons] at hM ⊢;omega),w,trivial⟩
   · have e:ew g x=x.over.1:=if_neg h
     rw [e]
     exact af (P5 k l.length i ((z::T).length) ((y::R).length) g (aq l) (aq (z::T)) (aq (y::R)) (aq ((y::R)++[x.over.1])) x x.over.1 x.over.2 ((g - x.i)%24) (i+1:Nat)) ⟨decide_eq_true (by omega),bO hx,cB x,he,decide_eq_false h,bO hx,decide_eq_false hv,lP (M:=(y::R)) x.over.1 (by simp only [List.length_cons] at hM ⊢;omega),w,trivial⟩
theorem Yg {k i:Nat} {l T R:List aj} {g:Int} {x:aj} (hx:l[i]? =some x) (h0:x.over.2=0) (hM:T.length+R.length=i) (hl:l.length≤100):
  aI MD bT k 24 0 (qS l.length g (aq l) T R i)=some (.normal,qN l.length g (aq l) T R x (i+1)):=by
 cases T with
 |nil=>cases R with
  |nil=>exact KH hx h0 (by simpa using hM) hl
  |cons y R=>exact KJ hx h0 (by simpa using hM) hl
 |cons z T=>cases R with
  |nil=>exact KI hx h0 (by simpa using hM) hl
  |cons y R=>exact KK hx h0 hM hl
theorem Pf {k i:Nat} {l T R:List aj} {g:Int} {x:aj} (hx:l[i]? =some x) (h0:x.over.2≠0):
  aI MD bT k 24 0 (qS l.length g (aq l) T R i)=some (.ret,⟨[(4, .pv aU),(5, .pv (iv x.over.2))],[],[],[]⟩):=by
 have hi:i<l.length:=(List.getElem?_eq_some_iff.1 hx).1
 have he:(x.over.2 !=(0:Int))=true:=by simpa using h0
 cases T with
 |nil=>cases R with
  |nil=>exact af (Uj k l.length i 0 0 g (aq l) [] [] [] x x.over.1 x.over.2 0 0) ⟨decide_eq_true (by omega),bO hx,cB x,he,trivial⟩
  |cons y R=>exact af (Up k l.length i 0 (y::R).length g (aq l) [] (aq (y::R)) [] x x.over.1 x.over.2 0 0) ⟨decide_eq_true (by omega),bO hx,cB x,he,trivial⟩
 |cons z T=>cases R with
  |nil=>exact af (Um k l.length i (z::T).length 0 g (aq l) (aq (z::T)) [] [] x x.over.1 x.over.2 0 0) ⟨decide_eq_true (by omega),bO hx,cB x,he,trivial⟩
  |cons y R=>exact af (Us k l.length i (z::T).length (y::R).length g (aq l) (aq (z::T)) (aq (y::R)) [] x x.over.1 x.over.2 0 0) ⟨decide_eq_true (by omega),bO hx,cB x,he,trivial⟩
def qX (n:Nat) (g:Int) (ds:List PV) (T R:List aj) (i:Nat):St:=match T,R with
 |[],[]=>⟨[(0, .pv (.sl 3 n ds)),(1, .pv (iv g)),(6, .pv aU),(7, .pv aU),(8, .pv (iv i)),(17, .pv (bv false))],[],[],[]⟩
 |_::_,[]=>⟨[(0, .pv (.sl 3 n ds)),(1, .pv (iv g)),(6, .pv (.sl 3 T.length (aq T))),(7, .pv aU),(8, .pv (iv i)),(17, .pv (bv false))],[],[(.s 6,3)],[]⟩
 |[],_::_=>⟨[(0, .pv (.sl 3 n ds)),(1, .pv (iv g)),(6, .pv aU),(7, .pv (.sl 3 R.length (aq R))),(8, .pv (iv i)),(17, .pv (bv false))],[],[(.s 7,3)],[]⟩
 |_::_,_::_=>⟨[(0, .pv (.sl 3 n ds)),(1, .pv (iv g)),(6, .pv (.sl 3 T.length (aq T))),(7, .pv (.sl 3 R.length (aq R))),(8, .pv (iv i)),(17, .pv (bv false))],[],[(.s 6,3),(.s 7,3)],[]⟩
theorem NK {k:Nat} {l T R:List aj} {g:Int}:aI MD bT k 24 0 (qS l.length g (aq l) T R l.length)=some (.exit 0,qX l.length g (aq l) T R l.length):=by
 cases T with
 |nil=>cases R with
  |nil=>exact af (Uk k l.length l.length 0 0 g (aq l) [] [] [] aj.zero aj.zero 0 0 0) ⟨decide_eq_false (by omega),trivial⟩
  |cons y R=>exact af (Uq k l.length l.length 0 (y::R).length g (aq l) [] (aq (y::R)) [] aj.zero aj.zero 0 0 0) ⟨decide_eq_false (by omega),trivial⟩
 |cons z T=>cases R with
  |nil=>exact af (Un k l.length l.length (z::T).length 0 g (aq l) (aq (z::T)) [] [] aj.zero aj.zero 0 0 0) ⟨decide_eq_false (by omega),trivial⟩
  |cons y R=>exact af (Ut k l.length l.length (z::T).length (y::R).length g (aq l) (aq (z::T)) (aq (y::R)) [] aj.zero aj.zero 0 0 0) ⟨decide_eq_false (by omega),trivial⟩
def pI (g:Int) (l:List aj):List aj:=(l.filter fun x=>decide (x.v>0)).map (ew g)
def o9 (g:Int) (l:List aj):List aj:=(l.filter fun x=> !decide (x.v>0)).map (ew g)
theorem Hg (g:Int) (l:List aj):(pI g l).length+(o9 g l).length=l.length:=by
 induction l with
 |nil=>rfl
 |cons x l ih=>
  unfold pI o9 at ih ⊢
  by_cases h:x.v>0<;>simp only [List.length_map,List.length_cons,List.filter_cons,h,decide_true,decide_false,Bool.not_true,Bool.not_false,if_true,if_false,Bool.false_eq_true] at ih ⊢<;>omega
theorem Pe {n:Nat} {g:Int} {ds:List PV} {L:List aj} {x:aj} {i:Nat}:qN n g ds (pI g L) (o9 g L) x i=qS n g ds (pI g (L++[x])) (o9 g (L++[x])) i:=by
 unfold qN pI o9
 by_cases h:x.v>0<;>simp [h]
theorem F8 {k:Nat} {l:List aj} {g:Int} (hl:l.length≤100):∀(L2 L1:List aj),l=L1++L2→
  aR (aI MD bT k 24 0) (L2.length+1) (qS l.length g (aq l) (pI g L1) (o9 g L1) L1.length)=
   if L2.all aj.ok then some (.exit 0,qX l.length g (aq l) (pI g l) (o9 g l) l.length) else some (.ret,⟨[(4, .pv aU),(5, .pv (iv 1))],[],[],[]⟩)
 |[],L1,e=>by
  have e':L1=l:=by simpa using e.symm
  subst e'
  exact aF NK (by simp)
 |x::L2,L1,e=>by
  have hx:l[L1.length]? =some x:=by rw [e];exact dA _ _ _
  cases hk:x.ok with
  |true=>
   have h0:x.over.2=0:=by unfold aj.over;rw [hk];rfl
   have r:=Yg (k:=k) (T:=pI g L1) (R:=o9 g L1) (g:=g) hx h0 (Hg g L1) hl
   rw [Pe] at r
   have ih:=F8 (k:=k) (g:=g) hl L2 (L1++[x]) (by rw [e];simp)
   simp only [List.length_append,List.length_singleton] at ih
   rw [List.all_cons,hk,Bool.true_and,←ih]
   rw [List.length_cons,aR,r]
   rfl
  |false=>
   have h1:x.over.2=1:=by unfold aj.over;rw [hk];rfl
   have r:=Pf (k:=k) (T:=pI g L1) (R:=o9 g L1) (g:=g) hx (by rw [h1];decide)
   rw [h1] at r
   rw [List.all_cons,hk,Bool.false_and]
   exact aF r (by simp)
theorem SR {x:aj} {g:Int} (h:x.ok=true):kS (ew g x)= !decide (x.v>0):=by
 have e:(ew g x).v= -x.v:=by
  have o:x.over.1=⟨x.h, -x.v,(-x.i)%24⟩:=by unfold aj.over;rw [h];rfl
  unfold ew;rw [o];split<;>rfl
 unfold kS;rw [e]
 by_cases h:x.v>0
 · rw [decide_eq_true (by omega: -x.v<0),decide_eq_true h]
 · rw [decide_eq_false (by omega:¬ -x.v<0),decide_eq_false h]
theorem Pq {g:Int}:∀{l:List aj},l.all aj.ok=true→ss kS (l.map (ew g))=pI g l++o9 g l:=by
 intro l h
 have h2:∀x∈l,kS (ew g x)= !decide (x.v>0):=fun x hx=>SR (List.all_eq_true.1 h x hx)
 unfold ss pI o9
 rw [List.filter_map,List.filter_map]
 congr 2
 · exact List.filter_congr fun x hx=>by simp only [Function.comp,h2 x hx,Bool.not_not]
 · exact List.filter_congr fun x hx=>by simp only [Function.comp,h2 x hx]
theorem Gw (g:Int) (l:List aj):aA P0 24 [.sl 3 l.length (aq l),iv g] (jB g l):=by
 unfold jB
 by_cases h:l.length>100
 · rw [if_pos h]
   exact ai ah pJ (by rfl) (zqM 1 l.length g (aq l)) ⟨decide_eq_true (by omega),trivial⟩
 · rw [if_neg h]
   have lp:=F8 (k:=l.length+1) (g:=g) (l:=l) (by omega) l [] rfl
   cases ha:l.all aj.ok with
   |false=>
    rw [ha] at lp
    exact ai ah pJ (by rfl) (zqN (l.length+1) l.length g 1 (aq l)) ⟨decide_eq_false (by omega),lp,trivial⟩
   |true=>
    rw [ha] at lp
    simp only [if_true] at lp ⊢
    rw [Pq ha]
    have hlen:=Hg g l
    have QG:room=140737488355328:=rfl
    have Qn:pI g ([]:List aj)=[]∧o9 g ([]:List aj)=[]:=⟨rfl,rfl⟩
    rw [Qn.1,Qn.2] at lp
    generalize pI g l=T at lp hlen ⊢
    generalize o9 g l=R at lp hlen ⊢
    cases T with
    |nil=>cases R with
     |nil=>exact ai ah pJ (by rfl) (Ul (l.length+1) l.length l.length 0 0 g (aq l) [] [] [] aj.zero aj.zero 0 0 0) ⟨decide_eq_false (by omega),lp,by decide,⟨rfl,rfl⟩,rfl,trivial⟩
     |cons y R=>
      rw [List.nil_append,lC (by simp)]
      simp only [List.length_nil,List.length_cons] at hlen
      exact ai ah pJ (by rfl) (Ur (l.length+1) l.length l.length 0 (y::R).length g (aq l) [] (aq (y::R)) [] aj.zero aj.zero 0 0 0) ⟨decide_eq_false (by omega),lp,by simp only [List.length_cons];omega,⟨cM _,rfl⟩,decide_eq_false (by simp),trivial⟩
    |cons z T=>cases R with
     |nil=>
      rw [List.append_nil,lC (by simp)]
      simp only [List.length_nil,List.length_cons] at hlen
      exact ai ah pJ (by rfl) (Uo (l.length+1) l.length l.length (z::T).length 0 g (aq l) (aq (z::T)) [] (aq (z::T)) aj.zero aj.zero 0 0 0) ⟨decide_eq_false (by omega),lp,⟨⟨rfl,List.append_nil _⟩,by rw [QG];simp only [List.length_cons];omega,rfl,cM _⟩,trivial⟩
     |cons y R=>
      rw [lC (by simp),List.length_append]
      simp only [List.length_cons] at hlen
      exact ai ah pJ (by rfl) (Uu (l.length+1) l.length l.length (z::T).length (y::R).length g (aq l) (aq (z::T)) (aq (y::R)) (aq ((z::T)++(y::R))) aj.zero aj.zero 0 0 0) ⟨decide_eq_false (by omega),lp,⟨⟨rfl,tf _ _⟩,by rw [QG];simp only [List.length_cons];omega,cM _,cM _⟩,trivial⟩
end Go.Proofs.YtibbgjafjhcemaaDoor.Cul
namespace Go.Proofs.YtibbgjafjhcemaaDoor.Cul
open Go Go.RowKit
theorem KB {m n:Nat} {a b:aj} {c:Bool} (h:(!a.dR b)=c):iJ MD.P .neq 36 (.tmp m) (.tmp n) (.agg a.vals.toArray) (.agg b.vals.toArray) c:=by subst h;exact H6 (by kernel_rfl) (E0 9998 a b)
abbrev bz (l:List Int):List PV:=ac (fun a:Int=>[iv a]) l
theorem iI {l:List Int} {i:Nat} {a:Int} (h:l[i]? =some a):az (bz l) 1 (i:Int) l.length [iv a]:=by
 have hi:i<l.length:=(List.getElem?_eq_some_iff.1 h).1
 exact ⟨⟨by omega,by omega⟩,by rw [Int.toNat_natCast];exact uG (enc:=fun a:Int=>[iv a]) (fun _=>rfl) h⟩
theorem kM:aP MD.P fC:=aO (au (iy xZ) (au (iy r7) aL))
theorem sV (a b:Int):aa fC 11 [iv a,iv b] (one (iv ((a+b)%24))):=rfl
theorem sW (a b:Int):aa fC 12 [iv a,iv b] (one (iv ((a+b)%24))):=rfl
def gR (x y:List Int):List Int:=List.zipWith (fun a b=>(a+b)%24) x y
theorem Aw {x y:List Int} {i:Nat} {a b:Int} (h:x[i]? =some a) (k:y[i]? =some b):(gR x y)[i]? =some ((a+b)%24):=by
 unfold gR
 rw [List.getElem?_zipWith,h,k]
def gF (x y:List Int):RV:=if x.length=y.length∧x.length≠0 then (if (gR x y).all (· ==(gR x y).headD 0) then one (.an [iv ((gR x y).headD 0),iv 0]) else one (.an [iv 0,iv 7])) else one (.an [iv 0,iv 1])
theorem wL {z:List Int} {f:Int} {i:Nat} {a:Int} (h:z[i]? =some a):(z.drop i).all (· ==f)=((a==f)&&(z.drop (i+1)).all (· ==f)):=by
 obtain ⟨hi,rfl⟩:=List.getElem?_eq_some_iff.1 h
 rw [List.drop_eq_getElem_cons hi,List.all_cons]
abbrev Yb (n m:Nat) (f:Int) (ds es:List PV) (i:Nat):St:=⟨[(0, .pv (.sl 1 n ds)),(1, .pv (.sl 1 m es)),(6, .pv (iv f)),(26, .pv (iv n)),(27, .pv (iv i))],[],[],[]⟩
abbrev Yc (n m:Nat) (f:Int) (ds es:List PV) (i:Nat):St:=⟨[(0, .pv (.sl 1 n ds)),(1, .pv (.sl 1 m es)),(6, .pv (iv f)),(7, .pv (iv i))],[],[],[]⟩
theorem Cr {k:Nat} {x y:List Int} {f:Int} (he:x.length=y.length) (hl:x.length<2^60):∀(d i:Nat),i+d=x.length→
  aR (aI MD fC k 25 0) (d+1) (Yb x.length y.length f (bz x) (bz y) i)=
   if ((gR x y).drop i).all (· ==f) then some (.exit 0,⟨[(0, .pv (.sl 1 x.length (bz x))),(1, .pv (.sl 1 y.length (bz y))),(6, .pv (iv f)),(26, .pv (iv x.length)),(27, .pv (iv x.length)),(28, .pv (bv false))],[],[],[]⟩)
   else some (.ret,⟨[(4, .pv (iv 0)),(5, .pv (iv 7))],[],[],[]⟩)
 |0,i,e=>by
  have e':i=x.length:=by omega
  subst e'
  have hz:((gR x y).drop x.length).all (· ==f)=true:=by
   rw [List.drop_eq_nil_of_le (by unfold gR;rw [List.length_zipWith];omega)];rfl
  rw [hz]
  exact aF (af (Ux k x.length y.length x.length f 0 0 0 0 (bz x) (bz y)) ⟨decide_eq_false (by omega),trivial⟩) (by simp)
 |d+1,i,e=>by
  have h1:i<x.length:=by omega
  have h2:i<y.length:=by omega
  have g1:x[i]? =some x[i]:=List.getElem?_eq_getElem h1
  have g2:y[i]? =some y[i]:=List.getElem?_eq_getElem h2
  generalize x[i]=a at g1
  generalize y[i]=b at g2
  rw [wL (Aw g1 g2)]
  cases hc:((a+b)%24==f) with
  |true=>
   have r:=af (Uv k x.length y.length i f a b ((a+b)%24) (i+1:Nat) (bz x) (bz y)) ⟨decide_eq_true (by omega),iI g1,iI g2,sV a b,by simpa using hc,bu (by omega) (by omega) (by omega),trivial⟩
   have ih:=Cr (k:=k) (f:=f) he hl d (i+1) (by omega)
   rw [Bool.true_and,←ih,aR,r]
   rfl
  |false=>
   have r:=af (Uw k x.length y.length i f a b ((a+b)%24) 0 (bz x) (bz y)) ⟨decide_eq_true (by omega),iI g1,iI g2,sV a b,by simpa using hc,trivial⟩
   rw [Bool.false_and]
   exact aF r (by simp)
theorem Cs {k:Nat} {x y:List Int} {f:Int} (he:x.length=y.length) (hl:x.length<2^60):∀(d i:Nat),i+d=x.length→
  aR (aI MD fC k 26 0) (d+1) (Yc x.length y.length f (bz x) (bz y) i)=
   if ((gR x y).drop i).all (· ==f) then some (.exit 0,⟨[(0, .pv (.sl 1 x.length (bz x))),(1, .pv (.sl 1 y.length (bz y))),(6, .pv (iv f)),(7, .pv (iv x.length)),(28, .pv (bv false))],[],[],[]⟩)
   else some (.ret,⟨[(4, .pv (iv 0)),(5, .pv (iv 7))],[],[],[]⟩)
 |0,i,e=>by
  have e':i=x.length:=by omega
  subst e'
  have hz:((gR x y).drop x.length).all (· ==f)=true:=by
   rw [List.drop_eq_nil_of_le (by unfold gR;rw [List.length_zipWith];omega)];rfl
  rw [hz]
  exact aF (af (UE k x.length y.length x.length f 0 0 0 0 (bz x) (bz y)) ⟨decide_eq_false (by omega),trivial⟩) (by simp)
 |d+1,i,e=>by
  have h1:i<x.length:=by omega
  have h2:i<y.length:=by omega
  have g1:x[i]? =some x[i]:=List.getElem?_eq_getElem h1
  have g2:y[i]? =some y[i]:=List.getElem?_eq_getElem h2
  generalize x[i]=a at g1
  generalize y[i]=b at g2
  rw [wL (Aw g1 g2)]
  cases hc:((a+b)%24==f) with
  |true=>
   have r:=af (UC k x.length y.length i f a b ((a+b)%24) (i+1:Nat) (bz x) (bz y)) ⟨decide_eq_true (by omega),iI g1,iI g2,sW a b,by simpa using hc,bu (by omega) (by omega) (by omega),trivial⟩
   have ih:=Cs (k:=k) (f:=f) he hl d (i+1) (by omega)
   rw [Bool.true_and,←ih,aR,r]
   rfl
  |false=>
   have r:=af (UD k x.length y.length i f a b ((a+b)%24) 0 (bz x) (bz y)) ⟨decide_eq_true (by omega),iI g1,iI g2,sW a b,by simpa using hc,trivial⟩
   rw [Bool.false_and]
   exact aF r (by simp)
theorem GS (x y:List Int) (hl:x.length<2^60):aA P0 25 [.sl 1 x.length (bz x), .sl 1 y.length (bz y)] (gF x y):=by
 unfold gF
 by_cases he:x.length=y.length
 · cases x with
   |nil=>
    rw [if_neg (by simp)]
    exact ai ah kM (by rfl) (Uz 1 0 y.length 0 0 0 0 0 0 (bz []) (bz y)) ⟨by rw [←he];rfl,rfl,trivial⟩
   |cons a x=>cases y with
    |nil=>simp at he
    |cons b y=>
     rw [if_pos ⟨he,by simp⟩]
     have hf:(gR (a::x) (b::y)).headD 0=(a+b)%24:=rfl
     rw [hf]
     have lp:=Cr (k:=(a::x).length+1) (f:=(a+b)%24) he hl (a::x).length 0 (by simp)
     rw [List.drop_zero] at lp
     have e1:(((a::x).length:Int) !=((b::y).length:Int))=false:=by rw [he];simp
     have e2:(((a::x).length:Int)==(0:Int))=false:=by simp only [List.length_cons];exact beq_false_of_ne (by omega)
     have r1:=iI (l:=a::x) (i:=0) (a:=a) rfl
     have r2:=iI (l:=b::y) (i:=0) (a:=b) rfl
     cases hc:(gR (a::x) (b::y)).all (· ==(a+b)%24) with
     |true=>
      rw [hc] at lp
      exact ai ah kM (by rfl) (UB ((a::x).length+1) (a::x).length (b::y).length (a::x).length ((a+b)%24) a b 0 0 (bz (a::x)) (bz (b::y))) ⟨e1,e2,r1,r2,sV a b,lp,trivial⟩
     |false=>
      rw [hc] at lp
      exact ai ah kM (by rfl) (UA ((a::x).length+1) (a::x).length (b::y).length 0 ((a+b)%24) a b 0 0 (bz (a::x)) (bz (b::y))) ⟨e1,e2,r1,r2,sV a b,lp,trivial⟩
 · rw [if_neg (fun h=>he h.1)]
   exact ai ah kM (by rfl) (Uy 1 x.length y.length 0 0 0 0 0 0 (bz x) (bz y)) ⟨by simpa using (fun h:(x.length:Int)=y.length=>he (by omega)),trivial⟩
theorem D1 (x y:List Int) (hl:x.length<2^60):aA P0 26 [.sl 1 x.length (bz x), .sl 1 y.length (bz y)] (gF x y):=by
 unfold gF
 by_cases he:x.length=y.length
 · cases x with
   |nil=>
    rw [if_neg (by simp)]
    exact ai ah kM (by rfl) (UG 1 0 y.length 0 0 0 0 0 0 (bz []) (bz y)) ⟨by rw [←he];rfl,rfl,trivial⟩
   |cons a x=>cases y with
    |nil=>simp at he
    |cons b y=>
     rw [if_pos ⟨he,by simp⟩]
     have hf:(gR (a::x) (b::y)).headD 0=(a+b)%24:=rfl
     rw [hf]
     have lp:=Cs (k:=(a::x).length+1) (f:=(a+b)%24) he hl x.length 1 (by simp only [List.length_cons];omega)
     have hd:((gR (a::x) (b::y)).drop 1).all (· ==(a+b)%24)=(gR (a::x) (b::y)).all (· ==(a+b)%24):=by
      have:=wL (z:=gR (a::x) (b::y)) (f:=(a+b)%24) (i:=0) (a:=(a+b)%24) rfl
      rw [List.drop_zero] at this
      rw [this];simp
     rw [hd] at lp
     have e1:(((a::x).length:Int) !=((b::y).length:Int))=false:=by rw [he];simp
     have e2:(((a::x).length:Int)==(0:Int))=false:=by simp only [List.length_cons];exact beq_false_of_ne (by omega)
     have r1:=iI (l:=a::x) (i:=0) (a:=a) rfl
     have r2:=iI (l:=b::y) (i:=0) (a:=b) rfl
     cases hc:(gR (a::x) (b::y)).all (· ==(a+b)%24) with
     |true=>
      rw [hc] at lp
      exact ai ah kM (by rfl) (UI (x.length+1) (a::x).length (b::y).length (a::x).length ((a+b)%24) a b 0 0 (bz (a::x)) (bz (b::y))) ⟨e1,e2,r1,r2,sW a b,lp,trivial⟩
     |false=>
      rw [hc] at lp
      exact ai ah kM (by rfl) (UH (x.length+1) (a::x).length (b::y).length 0 ((a+b)%24) a b 0 0 (bz (a::x)) (bz (b::y))) ⟨e1,e2,r1,r2,sW a b,lp,trivial⟩
 · rw [if_neg (fun h=>he h.1)]
   exact ai ah kM (by rfl) (UF 1 x.length y.length 0 0 0 0 0 0 (bz x) (bz y)) ⟨by simpa using (fun h:(x.length:Int)=y.length=>he (by omega)),trivial⟩
abbrev Yz (n:Nat) (ds:List PV) (i:Nat):St:=⟨[(0, .pv (.sl 3 n ds)),(1, .pv (.sl 3 n ds)),(5, .pv (iv i))],[],[],[]⟩
theorem CD {k:Nat} {l:List aj} (hl:l.length<2^60):∀(d i:Nat),i+d=l.length→
  aR (aI MD (bQ []) k 27 0) (d+1) (Yz l.length (aq l) i)=some (.exit 0,⟨[(0, .pv (.sl 3 l.length (aq l))),(1, .pv (.sl 3 l.length (aq l))),(5, .pv (iv l.length)),(14, .pv (bv false))],[],[],[]⟩)
 |0,i,e=>by
  have e':i=l.length:=by omega
  subst e'
  exact aF (af (UL k l.length l.length l.length 0 (aq l) (aq l) aj.zero aj.zero) ⟨decide_eq_false (by omega),trivial⟩) (by simp)
 |d+1,i,e=>by
  have h1:i<l.length:=by omega
  have g1:l[i]? =some l[i]:=List.getElem?_eq_getElem h1
  generalize l[i]=a at g1
  have r:=af (UK k l.length l.length i (i+1:Nat) (aq l) (aq l) a a) ⟨decide_eq_true (by omega),bO g1,bO g1,KB (by rw [aj.fQ.2 rfl];rfl),bu (by omega) (by omega) (by omega),trivial⟩
  have ih:=CD (k:=k) (l:=l) hl d (i+1) (by omega)
  rw [←ih,aR,r]
  rfl
theorem KV (l:List aj) (hl:l.length<2^60):aA P0 27 [jL l,jL l] (one (bv true)):=by
 cases l with
 |nil=>exact ai ah (aO aL) (by rfl) (UN 1) ⟨rfl,Nat.le_refl _,rfl,trivial⟩
 |cons z l=>
  rw [lC (by simp)]
  have lp:=CD (k:=(z::l).length+1) hl (z::l).length 0 (by simp)
  exact ai ah (aO aL) (by rfl) (UM ((z::l).length+1) (z::l).length (z::l).length (z::l).length 0 (aq (z::l)) (aq (z::l)) aj.zero aj.zero) ⟨by simp,lp,trivial⟩
end Go.Proofs.YtibbgjafjhcemaaDoor.Cul
namespace Go.Proofs.YtibbgjafjhcemaaDoor.Cul
open Go Go.RowKit Go.ChangeShapes Go.WideShapes Go.ChangeAt
theorem Gh {w:World} {b o:Nat} {u v:List Value} (h:w.rangeAt b o u) (k:w.rangeAt b (o+u.length) v):w.rangeAt b o (u++v):=fun j x hj=>by
 by_cases hl:j<u.length
 · rw [List.getElem?_append_left hl] at hj;exact h j x hj
 · rw [List.getElem?_append_right (by omega)] at hj
   have:=k (j - u.length) x hj
   rwa [show o+u.length+(j - u.length)=o+j by omega] at this
theorem Cw {α:Type} {vals:α→List Value} {z:Nat} (hz:∀x,(vals x).length=z) {w:World} {b:Nat}:∀(n off:Nat),(∀i,i<n→∃x:α,∀j v,(vals x)[j]? =some v→w.cell? ⟨b,off+i* z+j,none⟩=some v)→∃l:List α,l.length=n∧w.rangeAt b off (l.flatMap vals)
 |0,off,_=>⟨[],rfl,fun j v hj=>by simp at hj⟩
 |n+1,off,h=>by
  obtain ⟨x,hx⟩:=h 0 (by omega)
  obtain ⟨l,hl,hr⟩:=Cw hz n (off+z) (fun i hi=>by
   obtain ⟨y,hy⟩:=h (i+1) (by omega)
   exact ⟨y,fun j v hj=>by have:=hy j v hj;rwa [show off+z+i* z+j=off+(i+1)* z+j by rw [Nat.succ_mul];omega]⟩)
  refine ⟨x::l,by simp [hl], ?_⟩
  rw [List.flatMap_cons]
  refine Gh (fun j v hj=>by have:=hx j v hj;simpa using this) ?_
  rw [hz];exact hr
theorem KD {P:Program} {α:Type} {vals:α→List Value} {z:Nat} {t e:TypeId} (he:PT P (fun cs=>∃x:α,cs=vals x) e) (ht:P.underlying t=some (.slice e)) (hz:∀x,(vals x).length=z) (hc:P.cellsOf e=z)
  {w:World} {r:Reach} {b0:Nat} {v:Value} (hv:Cell.okWide P w r b0 t v) {H:Type} {enc:TypeId×Value→H} {base:Nat} {sp:Nat→Bool} {held:Bool} {fuel:Nat} {x:DataW H×List MemPlace} (hd:DataW.trod enc P w base sp held fuel t [v]=some x):
  ∃l:List α,(v= .slice none 0 0∧l=[])∨∃b off cap,v= .slice (some ⟨b,off,none⟩) l.length cap∧l.length≤cap∧w.rangeAt b off (l.flatMap vals):=by
 rcases DataW.trod_slice ht hd with ⟨h0,_⟩|⟨a,len,cap,elems,rest,n,_,h0,_,_,hl,_,hlen,hel,_,_⟩
 · simp only [List.cons.injEq,and_true] at h0
   exact ⟨[], .inl ⟨h0,rfl⟩⟩
 · simp only [List.cons.injEq,and_true] at h0
   subst h0
   unfold Cell.okWide at hv
   rw [ht] at hv
   simp only [Cell.ok,ht] at hv
   obtain ⟨b,off,spot⟩:=a
   have hs:spot=none:=hv.2.2.2.1
   subst hs
   obtain ⟨l,WS,hr⟩:=Cw hz (w:=w) (b:=b) len off (fun i hi=>by
    have h1:=hel i hi
    rw [List.getElem?_eq_getElem (by omega),Option.bind_eq_some_iff] at h1
    obtain ⟨cs,h1,h2⟩:=h1
    obtain ⟨⟨x,rfl⟩,_,_⟩:=he H enc n w base sp held cs _ _ h2
    refine ⟨x,fun j v hj=> ?_⟩
    have hj':j<z:=by rw [←hz x];exact (List.getElem?_eq_some_iff.1 hj).1
    have:=(World.cells?_some h1).2.2 j (by rw [hc];exact hj')
    rw [add_plain,add_plain,hc] at this
    rw [this,hj])
   exact ⟨l, .inr ⟨b,off,cap,by rw [WS],by omega,hr⟩⟩
def B7 (w:World):aD:=fun b _=>b<w.heap.size
theorem Ls {w:World} {a:Addr} {v:Value} (h:w.cell? a=some v):a.block<w.heap.size:=by
 cases hb:w.heap[a.block]? with
 |none=>simp [World.cell?,hb] at h
 |some o=>exact (Array.getElem?_eq_some_iff.1 hb).1
theorem BY {α:Type} {vals:α→List Value} {enc:α→List PV} {w:World} {Pr:aD} (h:∀x,nC (vals x)=some (enc x)):∀l:List α,aT w Pr (ac enc l) (l.flatMap vals)∧∀v∈l.flatMap vals,v.oneCell'=true
 |[]=>⟨.nil,by simp⟩
 |x::l=>by
  obtain ⟨h1,h2⟩:=rP (w:=w) (Pr:=Pr) (h x)
  obtain ⟨k1,k2⟩:=BY (w:=w) (Pr:=Pr) h l
  unfold ac at k1 ⊢
  rw [List.flatMap_cons,List.flatMap_cons]
  exact ⟨h1.app k1,fun v hv=>(List.mem_append.1 hv).elim (h2 v) (k2 v)⟩
theorem JK {P:Program} {α:Type} {vals:α→List Value} {en:α→List PV} {z:Nat} (hz:∀x,(vals x).length=z) (B6:∀x,(en x).length=z) (hl:∀x,nC (vals x)=some (en x)) {t e:TypeId} (he:PT P (fun cs=>∃x:α,cs=vals x) e) (ht:P.underlying t=some (.slice e)) (hc:P.cellsOf e=z)
  {w:World} {r:Reach} {b0:Nat} {v:Value} (hv:Cell.okWide P w r b0 t v) {H:Type} {enc:TypeId×Value→H} {base:Nat} {sp:Nat→Bool} {held:Bool} {fuel:Nat} {x:DataW H×List MemPlace} (hd:DataW.trod enc P w base sp held fuel t [v]=some x):
  ∃l:List α,Rp w (B7 w) (.sl z l.length (ac en l)) v∧v.oneCell'=true:=by
 obtain ⟨l,h|⟨b,off,cap,rfl,h2,h3⟩⟩:=KD he ht hz hc hv hd
 · obtain ⟨rfl,rfl⟩:=h
   exact ⟨[], .mE,rfl⟩
 · obtain ⟨k1,k2⟩:=BY (w:=w) (Pr:=B7 w) hl l
   exact ⟨l, .sl k1 k2 (jo B6 l) h2 h3 (fun i hi=>Ls (h3 i _ (List.getElem?_eq_getElem hi))),rfl⟩
end Go.Proofs.YtibbgjafjhcemaaDoor.Cul
namespace Go.Proofs.YtibbgjafjhcemaaDoor.Cul
open Go Go.RowKit Go.ChangeShapes Go.WideShapes Go.ChangeAt
open Go.Proofs Go.Proofs.YtibbgjafjhcemaaDoor
theorem xS {f:Nat} {Q9:List PV} (h:aA P0 f Q9 (one (bv true))) (W:World) (Pr:aD) (hp:∀b o,Pr b o→b<W.heap.size) {vs:List Value} (hr:aT W Pr Q9 vs):
  Calls Tryd.prog f vs.toArray W fun e W'=>e= .returned (.bool true)∧Below W.heap.size W W':=
 (h.2 vs W Pr hp hr).mono fun e W' ⟨v,aC,he,eP⟩=>by
   have:=eP.rp
   cases this
   exact ⟨he,eP.fw.gX⟩
namespace yD
set_option maxRecDepth 100000 in
theorem contract (H:Type) (enc:TypeId×Value→H) (W:World) (base:Nat) (args:Array Value) (ds gs:List (DataW H)) (before:List MemPlace)
  (hval:∀(j:Nat) t v,Tryd.f3.params[j]? =some t→args[j]? =some v→Value.okWide Tryd.prog W .any base t v)
  (hW:DataW.Whole enc Tryd.prog Tryd.f3.params.toList Rows.transferIndexSpec.vars false W args.toList ds gs before):
  Calls Tryd.prog 3 args W fun e W'=>∃v,e= .returned v∧Rows.transferIndexSpec.post enc Tryd.prog Tryd.f3 false true false false W args v W':=by
 have zM:=hW
 obtain ⟨p,q,E9,hV,rfl,hfz,ve⟩:=hW
 have hA:DataW.TrodAll enc Tryd.prog W 0 (fun _=>true) true Tryd.f3.params.toList args.toList ds p:=E9
 rw [Tryd.params3] at hA hval
 obtain ⟨v0,v1,d0,d1,p0,p1,rfl,rfl,rfl,h0,h1⟩:=trodAll_two hA
 obtain ⟨rfl,rfl⟩:=trodVars_none hV
 obtain ⟨a,rfl,rfl,rfl,wa⟩:=open_int Tryd.underlying3 (hval 0 3 v0 rfl rfl) h0
 obtain ⟨b,rfl,rfl,rfl,wb⟩:=open_int Tryd.underlying3 (hval 1 3 v1 rfl rfl) h1
 clear E9
 simp only [List.append_nil] at zM
 refine (xS (Km a b) W (fun _ _=>False) (fun _ _ h=>h.elim) (vs:=[.int .i64 a, .int .i64 b]) (.cons (.lit rfl) (.cons (.lit rfl) .nil))).mono fun e W' ⟨he,hb⟩=> ?_
 subst he
 refine ⟨_,rfl,_,_,_,[],[],[],zM,trodAll_cons_mk (shut_bool Tryd.underlying4 _) trodAll_mk0,trodAll_mk2 (shut_int Tryd.underlying3 wa) (shut_int Tryd.underlying3 wb),rfl,hb.frame _,fun h=>by simp at h⟩
theorem reads (os:Os) {H:Type} (enc:TypeId×Value→H):∃places,DataW.whole enc Tryd.prog ((iQ os #[]).forCall (fun _ _=>0) ⟨#[], #[.int .i64 0, .int .i64 0],[]⟩).memory Tryd.f3.params.toList Rows.transferIndexSpec.vars false #[Value.int .i64 0,Value.int .i64 0].toList 8=some ([.lit (.int .i64 0), .lit (.int .i64 0)],[],places):=
 ⟨[],by kernel_rfl⟩
theorem qc (os:Os):laidMet Tryd.prog Rows.transferIndexRow.laid ((iQ os #[]).forCall (fun _ _=>0) ⟨#[], #[.int .i64 0, .int .i64 0],[]⟩).memory:=
 laidMet_of_run' 8 (by kernel_rfl) (by kernel_rfl)
set_option maxRecDepth 100000 in
theorem lifted (os:Os) (started:os.Started) (H:Type) (enc:TypeId×Value→H) (F:Stop.Interp):
  ReturnsInHanded {} Tryd.checked os 3 .any ((OpenSpec.ofChange Rows.transferIndexSpec).preRow enc Tryd.prog Tryd.f3 Rows.transferIndexRow.domain false Rows.transferIndexRow.laid) (((OpenSpec.ofChange Rows.transferIndexSpec).at F).post enc Tryd.prog Tryd.f3 false true false false):=by
 obtain ⟨places,hx⟩:=reads os enc
 refine returnsInHanded_of_row (C:=Tryd.checked) (s:=OpenSpec.ofChange Rows.transferIndexSpec) ND started (by kernel_rfl) Tryd.func3
  (witness_row_at (enc:=enc) (C:=Tryd.checked) false (iQ os #[]) #[.int .i64 0, .int .i64 0] rfl (by kernel_rfl) (by kernel_rfl) (by kernel_rfl)
   (OpenSpec.preRow_of_cond 8 hx (by kernel_rfl) (fun k hk=>by cases hk) (by kernel_rfl) (qc os))) ?_
 intro W base args ds gs before hval hW _ _ _ hL _ _
 exact contract H enc W base args ds gs before hval hW
theorem said:Rows.TransferIndexSaid:=
 OpenClaim.holds_of_cond 3 Tryd.f3 rfl rfl rfl rfl rfl rfl rfl ⟨rfl,rfl,rfl,rfl,rfl⟩ rfl rfl rfl rfl rfl (by kernel_rfl) Tryd.func3 (by kernel_rfl)
  (of_decide_eq_true (by kernel_rfl)) (by unfold Func.isWrapper;first|(rw [if_pos (by decide+kernel)];kernel_rfl)|(rw [if_neg (by decide+kernel)];exact ⟨rfl,rfl⟩))
  (fun os started H enc _ F=>by rw [OpenClaim.pre_eq_preRow];exact lifted os started H enc F)
theorem plain (f:FuncId) (fn:Func) (hf:Tryd.pinned.checked.prog.funcNamed "culet/culetlaw50.TransferIndex" =some f) (hfn:Tryd.pinned.checked.prog.funcs[f]? =some fn):
  false=Tryd.pinned.checked.prog.looks []∧∀(j:Nat) t,fn.params[j]? =some t→Tryd.pinned.checked.prog.wantsStandIn t=false:=by
 obtain rfl:f=3:=Option.some.inj ((show Tryd.prog.funcNamed "culet/culetlaw50.TransferIndex" =some 3 by kernel_rfl).symm.trans hf)|>.symm
 obtain rfl:fn=Tryd.f3:=(Option.some.inj (Tryd.func3.symm.trans hfn)).symm
 refine ⟨by kernel_rfl,fun j t ht=> ?_⟩
 rw [Tryd.params3] at ht
 obtain rfl:t=3:=by simpa using Array.mem_of_getElem? ht
 exact (show Tryd.prog.wantsStandIn 3=false by kernel_rfl)
theorem card:Rows.TransferIndexCardSaid:=
 Claim7.holds_tied_plain_at .later [] _ _ _ _ said (fun _ h=>by cases h) (by kernel_rfl) (fun _ h=>by cases h) transferIndex_row_tie rfl ⟨rfl,rfl⟩ (by kernel_rfl) rfl plain (by kernel_rfl)
end yD
end Go.Proofs.YtibbgjafjhcemaaDoor.Cul
