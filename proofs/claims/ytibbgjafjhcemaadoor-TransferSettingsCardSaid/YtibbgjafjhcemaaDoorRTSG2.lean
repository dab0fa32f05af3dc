/- Part of a proof by an abstract machine for the program's code: lemmas, without conditions of their own beyond those that each states. (Made smaller by a program: short names, no comments.) -/
import Derived.Test.YtibbgjafjhcemaaDoorCards
import Derived.Test.YtibbgjafjhcemaaDoorTie
import Derived.WalkKit
import Derived.ProofKit
import Derived.OpenShut
import Derived.Deep.DeepHandedRow
import Derived.Lib.LaidTab
import Derived.Test.YtibbgjafjhcemaaDoorProg
import Derived.Laws.Strings
import Derived.Test.YtibbgjafjhcemaaDoorRTSG1
set_option linter.unusedVariables false
set_option linter.unusedSimpArgs false
namespace Go.Proofs.YtibbgjafjhcemaaDoor.Cul
open Go Go.RowKit
theorem DU {N M:Nat} (h:N≤M) {ops:Array Oper} {dr:Bool} (hok:mb N ops dr=true):mb M ops dr=true:=by
 simp only [mb,Bool.and_eq_true] at hok ⊢
 refine ⟨List.all_eq_true.2 fun o ho=> ?_,hok.2⟩
 have:=List.all_eq_true.1 hok.1 o ho
 cases hd:o.dst with
 |none=>rfl
 |some d=>rw [hd] at this;simp only [decide_eq_true_eq] at this ⊢;exact Nat.lt_of_lt_of_le this h
theorem dh {N M:Nat} (h:N≤M):∀{c:Code},bR N c=true→bR M c=true
 | .skip,_=>rfl
 | .region ..,hok=>DU h hok
 | .seq ..,hok=>by simp only [bR,Bool.and_eq_true] at hok ⊢;exact ⟨dh h hok.1,dh h hok.2⟩
 | .cond ..,hok=>by simp only [bR,Bool.and_eq_true] at hok ⊢;exact ⟨dh h hok.1,dh h hok.2⟩
 | .block _ _,hok=>by simp only [bR] at hok ⊢;exact dh h hok
 | .loop _,hok=>by simp only [bR] at hok ⊢;exact dh h hok
 | .rangeFunc _ ps a b,hok=>by
   simp only [bR,Bool.and_eq_true] at hok ⊢
   obtain ⟨⟨⟨⟨MY,zW⟩,Nd⟩,Nf⟩,hps⟩:=hok
   refine ⟨⟨⟨⟨MY,zW⟩,dh h Nd⟩,dh h Nf⟩,List.all_eq_true.2 fun p hp=> ?_⟩
   have:=List.all_eq_true.1 hps p hp
   simp only [decide_eq_true_eq] at this ⊢
   exact Nat.lt_of_lt_of_le this h
 | .exit _,_=>rfl
 | .ret,_=>rfl
theorem p7:∀(l:List PV) (i t:Nat) (av:AV),look (slotsOf i l) t=some av→∃j p,t=i+j∧l[j]? =some p∧av= .pv p
 |[],i,t,av,h=>by simp [slotsOf,look] at h
 |p::l,i,t,av,h=>by
  simp only [slotsOf,look] at h
  split at h
  · rename_i e;exact ⟨0,p,by omega,rfl,(Option.some.inj h).symm⟩
  · obtain ⟨j,q,h1,h2,h3⟩:=p7 l (i+1) t av h
    exact ⟨j+1,q,by omega,by simpa using h2,h3⟩
section
variable {P:Program} {base:Nat} {w w0:World} {Pr aN:aC} {bk:Key→Nat} {aS:ew} {st st':St} {a:Act} {N:Nat} {call:Cl}
theorem qY {args:List PV} {vs:List Value} (hp:∀b o,Pr b o→b<w.heap.size) (hr:aO w Pr args vs) (k:Nat):
  Inv w.heap.size w Pr (fun _=>0) (St.enter args) { tmps:=vs.toArray++Array.replicate k undef,defers:=[]} (vs.length+k):=by
 have hnl:∀x,¬live (St.enter args) x:=by
  intro x hx
  cases x with
  |bx k=>obtain ⟨cs,h⟩:=hx;simp [St.enter,look] at h
  |sx t=>
   rcases hx with ⟨sz,n,cs,h⟩|⟨z,h⟩
   · obtain ⟨j,p,_,_,e⟩:=p7 args 0 t _ h;simp at e
   · simp [St.enter,aJ] at h
  |cx k o=>obtain ⟨z,h⟩:=hx;simp [St.enter,aJ] at h
 constructor
 · simp
 · exact ⟨by simp,List.nodup_nil⟩
 · exact Nat.le_refl _
 · exact hp
 · intro t av ht
   obtain ⟨j,p,h1,h2,rfl⟩:=p7 args 0 t av ht
   obtain ⟨v,h3,h4⟩:=hr.get j p h2
   refine ⟨v, ?_,h4⟩
   have hj:j<vs.length:=(List.getElem?_eq_some_iff.1 h3).1
   have:t=j:=by omega
   subst this
   rw [Array.getElem?_append_left (by simpa using hj)]
   simpa using h3
 · exact fun x hx=>absurd hx (hnl x)
 · exact fun x _ hx=>absurd hx (hnl x)
 · intro k cs h;simp [St.enter,look] at h
 · intro t z h;simp [St.enter,aJ] at h
 · intro k i z h;simp [St.enter,aJ] at h
 · intro t q h;simp [St.enter,look] at h
theorem E3 (I:Inv base w Pr bk st a N) (r:ResultVar):∃aD aQ,Inv base w aD aQ (st.fix r) a N∧Kp w Pr w aD∧∀b o,b<base→aD b o→Pr b o:=by
 cases r with
 |cell t ty=>exact ⟨Pr,bk,I,Kp.refl _ _,fun _ _ _ h=>h⟩
 |tmp t=>obtain ⟨aD,aQ,h1,h2,h3,_⟩:=I.gh true t;exact ⟨aD,aQ,h1,h2,h3⟩
def gK (tmps:Array Value):ResultVar→Sem Value
 | .tmp t=>pure (tmps.getD t undef)
 | .cell g t=>do loadVar t (←asAddr (tmps.getD g undef))
theorem getD_some {tmps:Array Value} {t:Nat} {v:Value} (h:tmps[t]? =some v):tmps.getD t undef=v:=by simp [h]
theorem uI (I:Inv base w Pr bk st a N) {r:ResultVar} {rv:RV} (h:kE P st r=some rv):∃v,(gK a.tmps r).run P w= .ok v w∧Rp w Pr rv.v v∧
  ∀z,rv.gr=some z→∃b o n cap cs,rv.v= .sl z n cs∧v= .slice (some ⟨b,o,none⟩) n cap∧Room w Pr b o n cap z∧o=0∧base≤b∧b<w.heap.size:=by
 cases r with
 |tmp t=>
  simp only [kE] at h
  split at h
  · rename_i p hl
    simp only [Option.some.injEq] at h;subst h
    obtain ⟨v,hv,hr⟩:=I.slots t _ hl
    refine ⟨v,by simp [gK,hv],hr,fun z hz=> ?_⟩
    obtain ⟨o,n,cap,cs,h1,h2,h3,h0⟩:=I.gQ t z hz
    have hown:=I.own (.sx t) (.inr ⟨z,hz⟩)
    rw [hl] at h1
    rw [hv] at h2
    exact ⟨_,o,n,cap,cs,by simpa using h1,by simpa using h2,h3,h0,hown.1,hown.2⟩
  · simp at h
 |cell t ty=>
  simp only [kE] at h
  split at h
  · rename_i k o hl
    simp only [Option.bind_eq_some_iff,Option.map_eq_some_iff] at h
    obtain ⟨cs,hb,p,hp,rfl⟩:=h
    obtain ⟨v0,mX,Cg⟩:=I.slots t _ hl
    simp only [dJ] at Cg
    obtain ⟨⟨T,c,vs,h1,h0,h2,h3⟩,h4⟩:=I.boxes k cs hb
    have vi:w.rangeAt (bk (.bx k)) 0 vs:=iW h1 h0
    obtain ⟨v,hv,cS,hrow⟩:=mz (w:=w) (Pr:=Pr) hp h2 h3 vi
    refine ⟨v, ?_,cS,fun z hz=> ?_⟩
    · simp only [gK,getD_some mX,Cg,asAddr,Sem.run_bind,Sem.run_pure,Result.andThen_ok]
      rw [Nat.zero_add] at hv;exact hv
    · simp only at hz
      split at hz
      · simp at hz
      · rename_i rE
        obtain ⟨Nr,VU⟩:=hrow (by simpa using rE)
        obtain ⟨o',n,cap,cs',di,e1,e2,e3,e4,e9⟩:=I.iA k o z hz
        have hown:=I.own (.cx k o) ⟨z,hz⟩
        rw [hb] at e1;cases e1
        rw [VU] at e2
        have e5:w.cell? ⟨bk (.bx k),o,none⟩=some v:=by have:=vi o v Nr;rwa [Nat.zero_add] at this
        rw [e5] at e3
        exact ⟨_,o',n,cap,cs',by simpa using e2,by simpa using e3,e4,e9,hown.1,hown.2⟩
  · simp at h
theorem wM (I:Inv base w Pr bk st a N) {aD:aC} (hk:Kp w Pr w aD):∀(caps:List Cap) (vs:List Value) (ps:List PV),vs.length=caps.length→(∀(i:Nat) (c:Cap) (u:Value),caps[i]? =some c→vs[i]? =some u→gT w Pr bk c u)→
  (∀k off,Cap.bp k off∈caps→∀o,aD (bk (.bx k)) o)→dK st caps=some ps→aO w aD ps vs
 |[],[],ps,_,_,_,h=>by simp only [dK,Option.some.injEq] at h;subst h;exact .nil
 |[],v::vs,ps,hl,_,_,_=>by simp at hl
 |c::caps,[],ps,hl,_,_,_=>by simp at hl
 | .pv p::caps,v::vs,ps,hl,hc,hp,h=>by
   simp only [dK,Option.map_eq_some_iff] at h
   obtain ⟨qs,hq,rfl⟩:=h
   exact .cons (Rp.mono hk (hc 0 _ v rfl rfl)) (wM I hk caps vs qs (by simpa using hl) (fun i c u h1 h2=>hc (i+1) c u (by simpa using h1) (by simpa using h2)) (fun k off hm=>hp k off (List.mem_cons_of_mem _ hm)) hq)
 | .bp k off::caps,v::vs,ps,hl,hc,hp,h=>by
   simp only [dK,Option.bind_eq_some_iff,Option.map_eq_some_iff] at h
   obtain ⟨cs,hb,qs,hq,rfl⟩:=h
   refine .cons ?_ (wM I hk caps vs qs (by simpa using hl) (fun i c u h1 h2=>hc (i+1) c u (by simpa using h1) (by simpa using h2)) (fun k off hm=>hp k off (List.mem_cons_of_mem _ hm)) hq)
   have hv:v= .pointer (some ⟨bk (.bx k),off,none⟩):=hc 0 _ v rfl rfl
   obtain ⟨⟨T,c,us,h1,h0,h2,h3⟩,_⟩:=I.boxes k cs hb
   have vi:w.rangeAt (bk (.bx k)) 0 us:=iW h1 h0
   have hH:=dF vi off
   rw [Nat.zero_add] at hH
   rw [hv]
   exact .el ((aO.mono hk h2).drop off) (fun u hu=>h3 u (List.mem_of_mem_drop hu)) hH (fun i hi=>hp k off (by simp) _)
theorem Bt (I:Inv base w Pr bk st a N) {r:ResultVar} {rv:RV} (h:pJ P st r=some rv):∃v aD,(gK a.tmps r).run P w= .ok v w∧Rp w aD rv.v v∧(∀b o,b<base→aD b o→Pr b o)∧(∀b o,aD b o→b<w.heap.size)∧
  ∀z,rv.gr=some z→∃b o n cap cs,rv.v= .sl z n cs∧v= .slice (some ⟨b,o,none⟩) n cap∧Room w aD b o n cap z∧o=0∧base≤b∧b<w.heap.size:=by
 have old:kE P st r=some rv→∃v aD,(gK a.tmps r).run P w= .ok v w∧Rp w aD rv.v v∧(∀b o,b<base→aD b o→Pr b o)∧(∀b o,aD b o→b<w.heap.size)∧
   ∀z,rv.gr=some z→∃b o n cap cs,rv.v= .sl z n cs∧v= .slice (some ⟨b,o,none⟩) n cap∧Room w aD b o n cap z∧o=0∧base≤b∧b<w.heap.size:=fun h=>by
  obtain ⟨v,h1,h2,h3⟩:=uI I h
  exact ⟨v,Pr,h1,h2,fun _ _ _ h=>h,I.bL,h3⟩
 cases r with
 |cell g t=>exact old h
 |tmp t=>
  simp only [pJ] at h
  split at h
  · rename_i f caps hl
    simp only [Option.map_eq_some_iff] at h
    obtain ⟨ps,hps,rfl⟩:=h
    obtain ⟨v,hv,vs,rfl,hlen,hcap⟩:=I.slots t _ hl
    obtain ⟨aD,fF⟩:∃aD:aC,∀b o,aD b o↔(Pr b o∨∃k off cs,Cap.bp k off∈caps∧look st.bx k=some cs∧b=bk (.bx k)):=⟨fun b o=>_,fun _ _=>Iff.rfl⟩
    have dj:∀k off,Cap.bp k off∈caps→∃cs,look st.bx k=some cs:=by
     clear hcap hlen hl fF hv old
     intro k off hm
     induction caps generalizing ps with
     |nil=>simp at hm
     |cons c caps ih=>
      cases c with
      |pv p=>
       simp only [dK,Option.map_eq_some_iff] at hps
       obtain ⟨qs,hq,_⟩:=hps
       exact ih qs hq (by simpa using hm)
      |bp k2 o2=>
       simp only [dK,Option.bind_eq_some_iff,Option.map_eq_some_iff] at hps
       obtain ⟨cs,hb,qs,hq,_⟩:=hps
       rcases List.mem_cons.1 hm with e|hm
       · cases e;exact ⟨cs,hb⟩
       · exact ih qs hq hm
    refine ⟨_,aD,by simp [gK,hv], .fn (wM I ⟨fun b o h=>(fF b o).2 (.inl h),fun _ _ _=>rfl⟩ caps vs ps hlen hcap (fun k off hm o=> ?_) hps),fun b o hlt h=> ?_,fun b o h=> ?_,fun z hz=>by simp at hz⟩
    · obtain ⟨cs,hb⟩:=dj k off hm
      exact (fF _ _).2 (.inr ⟨k,off,cs,hm,hb,rfl⟩)
    · rcases (fF b o).1 h with h|⟨k,off,cs,_,hb,rfl⟩
      · exact h
      · have:=(I.own (.bx k) ⟨cs,hb⟩).1;omega
    · rcases (fF b o).1 h with h|⟨k,off,cs,_,hb,rfl⟩
      · exact I.bL b o h
      · exact (I.own (.bx k) ⟨cs,hb⟩).2
  · exact old h
theorem qQ:∀(l:List ResultVar) {st:St} {Pr:aC} {bk:Key→Nat} {ps:List PV},Inv base w Pr bk st a N→gN P st l=some ps→
  ∃vs aD,(l.mapM (gK a.tmps)).run P w= .ok vs w∧aO w aD ps vs∧Kp w Pr w aD∧(∀b o,b<base→aD b o→Pr b o)∧∀b o,aD b o→b<w.heap.size
 |[],st,Pr,bk,ps,I,h=>by
  simp only [gN,Option.some.injEq] at h;subst h
  exact ⟨[],Pr,by simp, .nil,Kp.refl _ _,fun _ _ _ h=>h,I.bL⟩
 |r::l,st,Pr,bk,ps,I,h=>by
  simp only [gN,Option.bind_eq_some_iff,Option.map_eq_some_iff] at h
  obtain ⟨rv,Ww,qs,Nj,rfl⟩:=h
  obtain ⟨lS,zo,I1,fI,fG⟩:=E3 I r
  obtain ⟨v,hv,cS,_⟩:=uI I1 Ww
  obtain ⟨vs,k9,h1,h2,h3,h4,h5⟩:=qQ l I1 Nj
  exact ⟨v::vs,k9,by simp [List.mapM_cons,hv,h1], .cons (Rp.mono h3 cS) h2,fI.trans h3,fun b o hb h=>fG b o hb (h4 b o hb h),h5⟩
theorem D7 (fn:Func) (tmps:Array Value):results fn tmps=(do let vs ←fn.results.mapM (gK tmps);pure (if h:vs.size=1 then vs[0] else .tuple vs)):=rfl
theorem k7 {fn:Func} {tmps:Array Value} {vs:List Value} (h:(fn.results.toList.mapM (gK tmps)).run P w= .ok vs w):(results fn tmps).run P w= .ok (if h:vs.length=1 then vs[0] else .tuple vs.toArray) w:=by
 rw [D7]
 have:fn.results=fn.results.toList.toArray:=by simp
 rw [this,List.mapM_toArray]
 simp only [Sem.run_bind,Sem.run_map,h]
 simp
theorem mM:∀(l:List ResultVar) {st:St} {ps:List PV},gN P st l=some ps→l.length=ps.length
 |[],st,ps,h=>by simp only [gN,Option.some.injEq] at h;subst h;rfl
 |r::l,st,ps,h=>by
  simp only [gN,Option.bind_eq_some_iff,Option.map_eq_some_iff] at h
  obtain ⟨rv,_,qs,Nj,rfl⟩:=h
  simp [mM l Nj]
theorem sX {fn:Func} {rv:RV} (Qs:∀b o,aN b o→b<w0.heap.size) (G:Good w0.heap.size w0 aN N aS st a w) (h:jD P st fn.results.toList=some rv):∃v aD,(results fn a.tmps).run P w= .ok v w∧C7 w0 aN w aD rv v:=by
 obtain ⟨Pr,bk,I,hb,hp,gq,_⟩:=G
 have join:∀aD,Kp w aD w (fun b o=>aD b o∨aN b o):=fun aD=>⟨fun _ _ h=> .inl h,fun _ _ _=>rfl⟩
 have fw:∀aD:aC,(∀b o,b<w0.heap.size→aD b o→Pr b o)→(∀b o,aD b o→b<w.heap.size)→Fw w0 aN w (fun b o=>aD b o∨aN b o):=fun aD h2 h3=>
  ⟨hb,fun b o h=> .inr h,fun b o hlt h=>h.elim (fun h=>hp b o hlt (h2 b o hlt h)) id,fun b o h=>h.elim (h3 b o) (fun h=>Nat.lt_of_lt_of_le (Qs b o h) hb.size)⟩
 unfold jD at h
 split at h
 · rename_i r hl
   obtain ⟨lS,zo,I1,fI,fG⟩:=E3 I r
   obtain ⟨v,k9,hv,cS,ck,hn2,dO⟩:=Bt I1 h
   refine ⟨v,_, ?_,⟨fw k9 (fun b o hlt h=>fG b o hlt (ck b o hlt h)) hn2,Rp.mono (join k9) cS,fun z hz=> ?_⟩⟩
   · have:=k7 (P:=P) (w:=w) (fn:=fn) (tmps:=a.tmps) (vs:=[v]) (by rw [hl];simp [List.mapM_cons,hv])
     simpa using this
   · obtain ⟨b,o,n,cap,cs,h1,h2,h3,h0,h4,h5⟩:=dO z hz
     exact ⟨b,o,n,cap,cs,h1,h2,⟨h3.hz,h3.le,h3.there,fun o' ho=>ho.elim (h3.pr o') (fun h=>absurd (Qs b o' h) (by omega))⟩,h0,h4,h5⟩
 · rename_i hl
   simp only [Option.map_eq_some_iff] at h
   obtain ⟨ps,hps,rfl⟩:=h
   obtain ⟨vs,lS,h1,h2,h3,h4,h5⟩:=qQ _ I hps
   have hlen:vs.length≠1:=by
    intro e
    have h6:=mM _ hps
    rw [h2.length,e] at h6
    obtain ⟨r,hr⟩:=List.length_eq_one_iff.1 h6
    exact hl r hr
   refine ⟨.tuple vs.toArray,_, ?_,⟨fw lS h4 h5, .aG (aO.mono (join lS) h2),fun z hz=>by simp at hz⟩⟩
   have:=k7 (P:=P) (w:=w) h1
   rw [this,dif_neg hlen]
end
theorem zg {P:Program} {S:Cl} {it:Nat→List PV→Option (Nat×List (List PV))} (hC:aI P S) (hI:mJ P it) (hm:P.follows .mixedOrders=true) {f:Nat} {fn:Func} (hf:P.funcs[f]? =some fn) (hok:uo fn=true) {note:Nat→fD} {k:Nat} {args:List PV} {r:RV}
  (h:uE P S it (fun g=>bg g k) note fn args=some r):az P f args r:=by
 simp only [Option.bind_eq_some_iff,uE] at h
 obtain ⟨c,hc,⟨x,st'⟩,hrun,hres⟩:=h
 simp only [uo,hc,Bool.and_eq_true,Bool.not_eq_true'] at hok
 refine ⟨⟨fn,c,hf,hc,hok.2⟩,fun vs w Pr hp hr=>callsIn_wide.1 (callsIn_of_wp_marks (F:=Fence.wide) (n:=2) hf hc trivial ?_ rfl)⟩
 have I0:=qY hp hr (fn.ntmps - vs.toArray.size)
 refine gx (base:=w.heap.size) (N:=vs.length+(fn.ntmps - vs.toArray.size)) hC hI hm note k c (dh (by simp;omega) hok.1) Fence.wide jO 2 w Pr ⟨fun _=>none,none⟩ (.inr ⟨rfl,rfl,by omega⟩) (fun _ _=>rfl) (St.enter args) _ w x st' ⟨Pr,_,I0,Below.refl _ _,fun _ _ _ h=>h,KO.refl _,fun k b e=>by simp at e,fun _ _ _ h1 h2=>⟨h1,h2⟩,fun _ e=>by simp at e⟩ hrun _ fun a' w' G=> ?_
 have fin:∀(hx:jD P st' fn.results.toList=some r),LeavesInM Fence.wide 2 P fn a'.tmps (fun e w'=>∃v aD,e= .returned v∧C7 w Pr w' aD r v) a'.defers .returning w':=fun hx=>
  xW (st:=st') rfl rfl (fun tmps w2 G2=>by
   obtain ⟨v,aD,h1,h2⟩:=sX hp G2 hx
   exact ⟨v,h1,v,aD,rfl,h2⟩) a'.defers a'.tmps w' G
 cases x with
 |normal=>exact fin hres
 |ret=>exact fin hres
 |exit id=>simp at hres
section
variable {P:Program} {base:Nat} {w w0:World} {Pr aN:aC} {bk:Key→Nat} {aS:ew} {st st':St} {a:Act} {N:Nat}
theorem kX {b size:Nat} {lT:List PV} {jr:Nat}:∀{ms:List MA} {vs:List Value},mK w Pr b size lT jr ms vs→∀(i t:Nat) (av:AV),look (nC i ms) t=some av→
  ∃j v,t=i+j∧vs[j]? =some v∧((∃p,av= .pv p∧Rp w Pr p v)∨(∃off n,av= .bs gk off jr n∧BS b size lT off jr n v))
 |_,_, .nil,i,t,av,h=>by simp [nC,look] at h
 |_,_, .p (p:=p) (v:=v) hr hs,i,t,av,h=>by
  simp only [nC,look] at h
  split at h
  · rename_i e;simp only [Option.some.injEq] at h;exact ⟨0,v,by omega,rfl, .inl ⟨p,h.symm,hr⟩⟩
  · obtain ⟨j,u,h1,h2,h3⟩:=kX hs (i+1) t av h
    exact ⟨j+1,u,by omega,by simpa using h2,h3⟩
 |_,_, .g (off:=off) (n:=n) (v:=v) hr hs,i,t,av,h=>by
  simp only [nC,look] at h
  split at h
  · rename_i e;simp only [Option.some.injEq] at h;exact ⟨0,v,by omega,rfl, .inr ⟨off,n,h.symm,hr⟩⟩
  · obtain ⟨j,u,h1,h2,h3⟩:=kX hs (i+1) t av h
    exact ⟨j+1,u,by omega,by simpa using h2,h3⟩
def guarded (w:World) (b:Nat):aC:=fun b' _=>b'≠b∧b'<w.heap.size
theorem Dk {b:Nat} {T:TypeId} {c:Array Value} {cs:List PV} {sz:Nat} {ms:List MA} {vs:List Value} (xQ:dn ms=some cs) (hp:∀b o,Pr b o→b<w.heap.size) (hG:C5 w Pr b T c cs) (hma:mK w Pr b c.size cs sz ms vs) (k:Nat):
  Inv 0 w (guarded w b) (fun _=>b) (St.fU ms) { tmps:=vs.toArray++Array.replicate k undef,defers:=[]} (vs.length+k):=by
 have pT:b<w.heap.size:=(Array.getElem?_eq_some_iff.1 hG.qF).1
 have hkp:Kp w Pr w (guarded w b):=⟨fun b' o h=>⟨fun e=>hG.free o (e ▸h),hp b' o h⟩,fun _ _ _=>rfl⟩
 have dj:∀j dL,look (St.fU ms).bx j=some dL→j=gk∧dL=cs:=by
  intro j dL h
  simp only [St.fU,xQ,look] at h
  split at h
  · rename_i e;simp only [Option.some.injEq] at h;exact ⟨e.symm,h.symm⟩
  · simp at h
 have VS:look (St.fU ms).bx gk=some cs:=by simp [St.fU,xQ,look]
 have hlv:∀x,live (St.fU ms) x→x= .bx gk:=by
  intro x hx
  cases x with
  |bx j=>obtain ⟨dL,h⟩:=hx;rw [(dj j dL h).1]
  |sx t=>
   rcases hx with ⟨sz',n,cs',h⟩|⟨z,h⟩
   · obtain ⟨j,v,_,_,⟨p,e,_⟩|⟨off,n,e,_⟩⟩:=kX hma 0 t _ h<;>simp at e
   · simp [St.fU,aJ] at h
  |cx j o=>obtain ⟨z,h⟩:=hx;simp [St.fU,aJ] at h
 constructor
 · simp
 · exact ⟨by simp,List.nodup_nil⟩
 · exact Nat.zero_le _
 · exact fun b' o h=>h.2
 · intro t av ht
   obtain ⟨j,v,h1,h2,h3⟩:=kX hma 0 t av ht
   have hj:j<vs.length:=(List.getElem?_eq_some_iff.1 h2).1
   obtain rfl:t=j:=by omega
   refine ⟨v,by rw [Array.getElem?_append_left (by simpa using hj)];simpa using h2, ?_⟩
   rcases h3 with ⟨p,rfl,hr⟩|⟨off,n,rfl,o,cap,e1,e2,e3,e4,e5,e6⟩
   · exact Rp.mono hkp hr
   · exact ⟨o,cap,cs,c,T,e1,e2,VS,e3,e4,e5,hG.qF,e6⟩
 · exact fun x hx=>⟨Nat.zero_le _,pT⟩
 · exact fun x y hx hy _=>by rw [hlv x hx,hlv y hy]
 · intro j dL h
   obtain ⟨rfl,rfl⟩:=dj j dL h
   obtain ⟨us,h1,h2,h3⟩:=hG.pre
   exact ⟨⟨T,c,us,hG.qF,h1,aO.mono hkp h2,h3⟩,fun o h=>h.1 rfl⟩
 · intro t z h;simp [St.fU,aJ] at h
 · intro j i z h;simp [St.fU,aJ] at h
 · intro t q h;simp [St.fU,look] at h
theorem yh {p:PV} {v:Value} (h:ki p=true) (k:Rp w Pr p v) {w':World} {aD:aC}:Rp w' aD p v:=by
 unfold ki at h
 split at h
 · cases k with|aG hr=>cases hr;exact .aG .nil
 · obtain ⟨u,hu⟩:=Option.isSome_iff_exists.1 h
   exact yD hu k
theorem tE (I:Inv base w Pr bk st a N):∀{l:List ResultVar} {ps:List PV},kM st l=some ps→∃us,(l.mapM (gK a.tmps)).run P w= .ok us w∧(∀{w':World} {aD:aC},aO w' aD ps us)∧l.length=us.length
 |[],ps,h=>by simp only [kM,Option.some.injEq] at h;subst h;exact ⟨[],by simp, .nil,rfl⟩
 | .cell _ _::l,ps,h=>by simp [kM] at h
 | .tmp t::l,ps,h=>by
   simp only [kM] at h
   split at h
   · rename_i p hl
     split at h
     · rename_i oR
       simp only [Option.map_eq_some_iff] at h
       obtain ⟨qs,hq,rfl⟩:=h
       obtain ⟨us,h1,h2,h3⟩:=tE I hq
       obtain ⟨v,hv,hr⟩:=I.slots t _ hl
       exact ⟨v::us,by simp [List.mapM_cons,gK,hv,h1], .cons (yh oR hr) h2,by simp [h3]⟩
     · simp at h
   · simp at h
theorem Ln {fn:Func} {r:MR} {cs':List PV} (I:Inv base w Pr bk st a N) (hcs:look st.bx gk=some cs') {c':Array Value} {T:TypeId} (hb:w.heap[bk (.bx gk)]? =some (.cells c' T (0,0))) {sz:Nat} (h:uj st sz fn.results.toList=some r):
  ∃v,(results fn a.tmps).run P w= .ok v w∧∀{w':World} {aD:aC},LU w' aD (bk (.bx gk)) c'.size cs' sz r v:=by
 have Fj:∀{off n u},gS st w bk gk off sz n u→BS (bk (.bx gk)) c'.size cs' off sz n u:=fun {off n u} h=>by
  obtain ⟨o,cap,dL,c2,T2,e1,e2,e3,e4,e5,e6,e7,e8⟩:=h
  rw [hcs] at e3;cases e3
  rw [hb] at e7;cases e7
  exact ⟨o,cap,e1,e2,e4,e5,e6,e8⟩
 unfold uj at h
 split at h
 · rename_i he
   simp only [Option.some.injEq] at h;subst h
   have:fn.results= #[]:=Array.ext' (by simpa using he)
   exact ⟨_,results_none this _ _ _, .aG .nil⟩
 · rename_i t he
   have hrun:∀v,a.tmps[t]? =some v→(results fn a.tmps).run P w= .ok v w:=fun v hv=>by
    have:=k7 (P:=P) (w:=w) (fn:=fn) (tmps:=a.tmps) (vs:=[v]) (by rw [he];simp [List.mapM_cons,gK,hv])
    simpa using this
   split at h
   · rename_i p hl
     split at h
     · rename_i oR
       simp only [Option.some.injEq] at h;subst h
       obtain ⟨v,hv,hr⟩:=I.slots t _ hl
       exact ⟨v,hrun v hv,yh oR hr⟩
     · simp at h
   · rename_i k off s n hl
     split at h
     · rename_i hk
       obtain ⟨rfl,rfl⟩:=hk
       simp only [Option.some.injEq] at h;subst h
       obtain ⟨v,hv,hr⟩:=I.slots t _ hl
       exact ⟨v,hrun v hv,Fj hr⟩
     · simp at h
   · simp at h
 · rename_i t l hne he
   split at h
   · rename_i k off s n hl
     split at h
     · rename_i hk
       obtain ⟨rfl,rfl⟩:=hk
       simp only [Option.map_eq_some_iff] at h
       obtain ⟨ps,hps,rfl⟩:=h
       obtain ⟨v,hv,hr⟩:=I.slots t _ hl
       obtain ⟨us,h1,h2,h3⟩:=tE (P:=P) I hps
       have hlen:(v::us).length≠1:=by
        intro e
        have:l=[]:=by
         have:us.length=0:=by simpa using e
         exact List.length_eq_zero_iff.1 (by omega)
        exact hne this
       have:=k7 (P:=P) (w:=w) (fn:=fn) (tmps:=a.tmps) (vs:=v::us) (by rw [he];simp [List.mapM_cons,gK,hv,h1])
       rw [dif_neg hlen] at this
       exact ⟨_,this,v,us,rfl,Fj hr,h2⟩
     · simp at h
   · simp at h
 · simp at h
end
theorem u5 {w:World} {Pr:aC} {b size:Nat} {lT:List PV} {jr:Nat}:∀{ms:List MA} {vs:List Value} {cs:List PV},mK w Pr b size lT jr ms vs→dn ms=some cs→jP ms=jr
 |_,_,_, .nil,h=>by simp [dn] at h
 |_,_,_, .p _ hs,h=>by
  simp only [jP]
  exact u5 hs (by simpa [dn] using h)
 |_,_,_, .g _ _,h=>rfl
theorem HW {c:Code} {k:Nat} (h:(dstsOf c).all (fun d=>d !=k)=true):∀d∈dstsOf c,d≠k:=fun d hd=>by
 have:=List.all_eq_true.1 h d hd
 simpa using this
theorem As {P:Program} {S:Cl} {it:Nat→List PV→Option (Nat×List (List PV))} (hC:aI P S) (hI:mJ P it) (hm:P.follows .mixedOrders=true) {f:Nat} {fn:Func} (hf:P.funcs[f]? =some fn) (hok:uo fn=true) {note:Nat→fD} {k:Nat} {ms:List MA} {r:MR} {cs':List PV}
  (h:qO P S it (fun g=>bg g k) note fn ms=some (r,cs')):jb P f ms r cs':=by
 simp only [qO,Option.bind_eq_some_iff] at h
 obtain ⟨c,hc,h⟩:=h
 split at h
 · rename_i hfl
   simp only [Bool.and_eq_true] at hfl
   simp only [Option.bind_eq_some_iff] at h
   obtain ⟨⟨x,st'⟩,hrun,h⟩:=h
   simp only [uo,hc,Bool.and_eq_true,Bool.not_eq_true'] at hok
   refine ⟨⟨fn,c,hf,hc,hok.2⟩,fun cs sz vs w Pr b T c0 xQ hp hG hma=>callsIn_wide.1 (callsIn_of_wp (F:=Fence.wide) (n:=2) hf hc trivial ?_ rfl)⟩
   have I0:=Dk xQ hp hG hma (fn.ntmps - vs.toArray.size)
   have pT:b<w.heap.size:=(Array.getElem?_eq_some_iff.1 hG.qF).1
   refine gx (base:=0) (N:=vs.length+(fn.ntmps - vs.toArray.size)) hC hI hm note k c (dh (by simp;omega) hok.1) Fence.wide jO 2 w (guarded w b) ⟨fun j=>if j=gk then some b else none,some []⟩ (.inl hfl.1)
    (fun d hd=>if_neg (HW hfl.2 d hd)) (St.fU ms) _ w x st' ⟨guarded w b,_,I0,Below.refl _ _,fun _ _ _ h=>h,KO.refl _,fun j b' e=>by simp only at e;split at e<;>simp_all,fun _ _ _ h1 h2=>⟨h1,h2⟩,fun ds e=>by simpa using e⟩ hrun _ fun a' w' G=> ?_
   have fin:((uj st' (jP ms) fn.results.toList).bind fun r=>(look st'.bx gk).bind fun cs'=>(dn ms).bind fun cs=>if cs'.all cJ=true∧cs'.length=cs.length then some (r,cs') else none)=some (r,cs')→
     a'.defers=[]∧∃v,(results fn a'.tmps).run P w'= .ok v w'∧∃v',Ending.returned v= .returned v'∧LS w Pr w' b T c0 sz cs r cs' v':=fun h=>by
    simp only [Option.bind_eq_some_iff] at h
    obtain ⟨r1,gF,uP,ML,dL,MM,h⟩:=h
    split at h
    · rename_i gW
      simp only [Option.some.injEq,Prod.mk.injEq] at h
      obtain ⟨rfl,rfl⟩:=h
      rw [xQ] at MM;cases MM
      obtain ⟨Z3,bk,I,iL,hpF,gq,DC,hkc,hdf⟩:=G
      have hbk:bk (.bx gk)=b:=DC gk b (by simp)
      obtain ⟨⟨T2,c2,us,e1,e0,e2,e3⟩,e4⟩:=I.boxes gk uP ML
      obtain ⟨c3,e5,e6⟩:=gq.sized b c0 T _ hG.qF
      rw [hbk,e5] at e1;cases e1
      rw [u5 hma xQ] at gF
      obtain ⟨v,cT,eS⟩:=Ln (P:=P) I ML (by rw [hbk];exact e5) gF
      refine ⟨hdf [] rfl,v,cT,v,rfl,iL.os,iL.tape,iL.output,iL.size,fun j hj Wc=> ?_,⟨_,⟨e5,⟨us,e0,pY gW.1 e2,e3⟩,hG.free⟩,e6⟩,gW.2, ?_⟩
      · cases ho:w.heap[j]? with
        |none=>rw [Array.getElem?_eq_getElem hj] at ho;simp at ho
        |some o=>
         cases Qp:o.isCells with
         |false=>exact gq.same j o ho Qp
         |true=>
          cases o with
          |cells c4 T4 fz=>
           obtain ⟨c5,e7,e8⟩:=gq.sized j c4 T4 fz ho
           rw [e7]
           congr 2
           apply Array.ext_getElem?
           intro i
           by_cases hi:i<c4.size
           · have h1:w.cell? ⟨j,i,none⟩=some c4[i]:=by
               simp [World.cell?,ho,hi]
             have h2:=(hkc j i _ ⟨Wc,hj⟩ h1).2
             rw [Array.getElem?_eq_getElem hi,←h2]
             simp [World.cell?,e7]
           · rw [Array.getElem?_eq_none (by omega),Array.getElem?_eq_none (by omega)]
          |_=>simp [Obj.isCells] at Qp
      · rw [←hbk,←e6];exact eS
    · simp at h
   cases x with
   |normal=>exact fin h
   |ret=>exact fin h
   |exit id=>simp at h
 · simp at h
structure qL (M:jC):Prop where
 jv:M.P.follows .mixedOrders=true
 kW:mJ M.P M.iter
 fns:∀(f:Nat) (fn:Func),M.P.funcs[f]? =some fn→M.ur f=none→uo fn=true
 Kg:∀(f:Nat) (g:(Nat→List PV→Option RV)→List PV→Option RV),M.ur f=some g→∀call,(∀f args r,call f args=some r→az M.P f args r)→∀args r,g call args=some r→az M.P f args r
theorem aI.with {P:Program} {C:Cl} (h:aI P C) (ex:Nat→Nat→Bool) (im:Nat→Bool):aI P { C with ex:=ex,im:=im}:=⟨h.fn,h.mu⟩
theorem Ew {M:jC} (hM:qL M):∀n,aI M.P (acl M n)
 |0=>⟨fun f args r h=>by simp [acl] at h,fun f ms r cs' h=>by simp [acl] at h⟩
 |n+1=>by
  have ih:=Ew hM n
  refine ⟨fun f args r h=> ?_,fun f ms r cs' h=> ?_⟩
  · simp only [acl] at h
    split at h
    · rename_i g hg
      exact hM.Kg f g hg _ ih.fn args r h
    · rename_i hg
      rw [Option.bind_eq_some_iff] at h
      obtain ⟨fn,hfn,h⟩:=h
      exact zg (ih.with _ _) hM.kW hM.jv hfn (hM.fns f fn hfn hg) h
  · simp only [acl] at h
    split at h
    · simp at h
    · rename_i hg
      rw [Option.bind_eq_some_iff] at h
      obtain ⟨fn,hfn,h⟩:=h
      exact As (ih.with _ _) hM.kW hM.jv hfn (hM.fns f fn hfn hg) h
theorem HA {M:jC} (hM:qL M) (n f:Nat) (args:List PV) (r:RV) (h:JE M n f args=some r):az M.P f args r:=(Ew hM n).fn f args r h
end Go.Proofs.YtibbgjafjhcemaaDoor.Cul
namespace Go.Proofs.YtibbgjafjhcemaaDoor.Cul
open Go Go.RowKit
def cO:List Prop→Prop
 |[]=>True
 |p::l=>p∧cO l
theorem cO.app:∀{l m:List Prop},cO (l++m)→cO l∧cO m
 |[],_,h=>⟨trivial,h⟩
 |_::_,_,h=>⟨⟨h.1,(cO.app h.2).1⟩,(cO.app h.2).2⟩
inductive El where
 |c (b:Bool)
 |r (x:RV)
 |l (x:Xt) (s:St)
 |u (n:Nat)
 |v (d:Nat) (m:Made)
 |e (d:Nat) (p:PV)
 |i (d:Nat) (x:Int)
 |t (d n:Nat) (cs:List PV)
 |o (d off n:Nat)
 |f (cs:List PV)
 |g (b:Bool)
 |p (n:Nat) (cs:List PV)
 |w (d:Nat) (str:ByteArray)
 |a (d:Nat) (cs:List PV)
 |j (d i:Nat)
 |s (cs:List PV)
 |m (r:MR) (cs:List PV)
def Pd:BinOp→Bool
 | .eql| .neq| .lss| .leq| .gtr| .geq=>true
 |_=>false
abbrev Ow (α:Type):=α×List El×List Prop
def jg (s:ByteArray) (n:Int):Option Int:=(if 0≤n then s[n.toNat]? else none).map fun b=>(b.toNat:Int)
abbrev Ld (P:Program) (t:TypeId) (cs:List PV) (o:Nat) (p:PV):Prop:=eA P t cs o=some p
abbrev cH (cs:List PV) (a n:Nat) (cs':List PV):Prop:=(cs.drop a).take n=cs'
abbrev cg (cs:List PV) (off:Nat) (new cs':List PV):Prop:=splice cs off new=cs'
abbrev aa (call:Cl) (f:Nat) (gm:List PV) (rv:RV):Prop:=call.fn f gm=some rv
abbrev eH (call:Cl) (f:Nat) (ms:List MA) (r:MR) (cs:List PV):Prop:=call.mu f ms=some (r,cs)
abbrev za (P:Program) (call:Cl) (it:Nat→List PV→Option (Nat×List (List PV))) (k:Nat) (note:Nat→fD) (c:Code) (st:St) (x:Xt) (s1:St):Prop:=bg (cW P call it (fun g=>bg g k) note c) k st=some (x,s1)
abbrev eE (str:ByteArray) (n b:Int):Prop:=jg str n=some b
abbrev aL (cs:List PV) (sz:Nat) (n:Int) (len:Nat) (cs':List PV):Prop:=(0≤n∧n<len)∧row cs sz n.toNat=cs'
abbrev aK (n:Int) (len i:Nat):Prop:=n=(i:Int)∧i<len
abbrev fP (z:List PV) (n:Nat) (cs:List PV):Prop:=bq z n=cs
abbrev C8 (P:Program) (t:TypeId) (str:ByteArray) (lo hi:Option Value) (s':ByteArray):Prop:=cM P (Instr.sliceAt t (.string str) lo hi none)=some (.lit (.string s'))
abbrev jA (cs:List PV) (s':ByteArray):Prop:=(bytesOf cs).map (fun l=>ByteArray.mk l.toArray)=some s'
abbrev JB (n1 n2:Nat) (c1 c2:List PV) (bytes s m:Nat) (cs':List PV):Prop:=(n1+n2=m∧c1++c2=cs')∧(m* bytes≤room∧m≤room)∧c2.length=n2* s∧c1.length=n1* s
abbrev gw (P:Program) (op:BinOp) (t:TypeId) (x y:Operand) (a b':Value) (b:Bool):Prop:=cM P (do eqGuard op t x y a b';binOp op t a b')=some (.lit (.bool b))
def zn (op:BinOp) (a b:Value):Option (Value×List Prop):=
 match op,a,b with
 | .shl, .int k x, .int _ y=>some (.int k (k.wrap (x* 2^min y.toNat k.bits)),[decide (y<0)=false])
 | .shr, .int k x, .int _ y=>some (.int k (x.fdiv (2^min y.toNat k.bits)),[decide (y<0)=false])
 | .quo, .int k x, .int k' y=>if k=k' then some (.int k (k.wrap (x.tdiv y)),[decide (y=0)=false]) else none
 | .rem, .int k x, .int k' y=>if k=k' then some (.int k (x.tmod y),[decide (y=0)=false]) else none
 |_,_,_=>none
def Aj (P:Program) (t:TypeId):Bool:=match P.underlying t with|some .string=>true|_=>false
theorem FG {P:Program} {t:TypeId} (h:Aj P t=true):P.underlying t=some .string:=by
 unfold Aj at h;split at h<;>first|assumption|cases h
def o6 (P:Program) (call:Cl) (o:Oper) (st:St) (s:List El):Option (Ow Made):=
 match o.op with
 | .binOp op t x y _=>if Pd op then match s with
  | .c b::s'=>(st.val x).bind fun a=>(st.val y).bind fun b'=>match cM P (do eqGuard op t x y a b';binOp op t a b') with
    |some (.lit (.bool c))=>some ({ v:= .pv (.lit (.bool b))},s',[c=b])
    |_=>none
  | .g b::s'=>(st.val x).bind fun a=>(st.val y).bind fun b'=>some ({ v:= .pv (.lit (.bool b))},s',[gw P op t x y a b' b])
  |_=>none else match (st.val x).bind fun a=>(st.val y).bind fun b=>zn op a b with
  |some (v,ob)=>some ({ v:= .pv (.lit v)},s,ob)
  |none=>(quiet P call o st).map fun m=>(m,s,[])
 | .index t x i=>match s,st.pv x with
   | .i d b::s',some (.lit (.string str))=>if o.dst=some d∧Aj P t=true then ((st.pv i).bind cn).map fun n=>({ v:= .pv (.lit (.int .u8 b))},s',[eE str n b]) else none
   | .e d p::s',some (.ag cs)=>if o.dst=some d then match P.underlying t with
     |some (.array len e)=>((st.pv i).bind cn).bind fun n=>(bV P e).bind fun z=>some ({ v:= .pv p},s',[0≤n∧n<len,Ld P e cs (n.toNat* z) p])
     |_=>none else (quiet P call o st).map fun m=>(m,s,[])
   |_,_=>(quiet P call o st).map fun m=>(m,s,[])
 | .indexAddr t x i=>((st.pv i).bind cn).bind fun n=>match P.underlying t with
   |some (.slice e)=>(bV P e).bind fun z=>match st.ev x with
    |some (.pv (.sl sz len cs))=>if sz=z then (match s with
     | .a d cs'::s'=>if o.dst=some d then some ({ v:= .pv (.el cs')},s',[aL cs sz n len cs']) else none
     |_=>some ({ v:= .pv (.el (row cs sz n.toNat))},s,[0≤n∧n<len])) else none
    |some (.xr u)=>match look st.sl u with
     |some (.ex sz len cs)=>if sz=z then some ({ v:= .xe u (n.toNat* sz)},s,[0≤n∧n<len]) else none
     |_=>none
    |some (.bs k off sz len)=>if sz=z then (match s with
     | .j d i::s'=>if o.dst=some d then some ({ v:= .bp k (off+i* sz)},s',[aK n len i]) else none
     |_=>some ({ v:= .bp k (off+n.toNat* sz)},s,[0≤n∧n<len])) else none
    |_=>none
   |some (.array len e)=>match s,st.ev x with
    | .j d i::s',some (.bp k off)=>if o.dst=some d then (bV P e).bind fun z=>some ({ v:= .bp k (off+i* z)},s',[aK n len i]) else (quiet P call o st).map fun m=>(m,s,[])
    |_,_=>(quiet P call o st).map fun m=>(m,s,[])
   |_=>(quiet P call o st).map fun m=>(m,s,[])
 | .load t x=>match s with
   | .e d p::s'=>if o.dst=some d then match st.ev x with
     |some (.bp k o)=>(look st.bx k).map fun cs=>({ v:= .pv p,tg:=if !ei P t&&(aJ st.gr (.c k o)).isSome then some (.c k o) else none},s',[Ld P t cs o p])
     |some (.pv (.el cs))=>some ({ v:= .pv p},s',[Ld P t cs 0 p])
     |_=>none else (quiet P call o st).map fun m=>(m,s,[])
   |_=>(quiet P call o st).map fun m=>(m,s,[])
 | .slice t x lo hi mx=>match st.ev x with
   |some (.bs k off sz n)=>match P.underlying t,mx with
    |some (.slice e),none=>if bV P e=some sz then
     (match hi with|none=>some (n:Int)|some y=>(st.pv y).bind cn).bind fun h=>
     (match lo with|none=>some (0:Int)|some y=>(st.pv y).bind cn).bind fun l=>
     match s with
     | .o d off' n'::s'=>if o.dst=some d then some ({ v:= .bs k off' sz n'},s',[0≤l∧l≤h∧h≤n,off+l.toNat* sz=off',h.toNat - l.toNat=n']) else none
     |_=>some ({ v:= .bs k (off+l.toNat* sz) sz (h.toNat - l.toNat)},s,[0≤l∧l≤h∧h≤n]) else none
    |_,_=>none
   |some (.pv (.sl sz n cs))=>match P.underlying t,mx with
    |some (.slice e),none=>if bV P e=some sz then
     (match hi with|none=>some (n:Int)|some y=>(st.pv y).bind cn).bind fun h=>
     (match lo with|none=>some (0:Int)|some y=>(st.pv y).bind cn).bind fun l=>
     match s with
     | .t d n' cs'::s'=>if o.dst=some d then some ({ v:= .pv (.sl sz n' cs')},s',[0≤l∧l≤h∧h≤n,h.toNat - l.toNat=n',cH cs (l.toNat* sz) ((h.toNat - l.toNat)* sz) cs']) else none
     |_=>some ({ v:= .pv (.sl sz (h.toNat - l.toNat) ((cs.drop (l.toNat* sz)).take ((h.toNat - l.toNat)* sz)))},s,[0≤l∧l≤h∧h≤n]) else none
    |_,_=>none
   |_=>(quiet P call o st).map fun m=>(m,s,[])
 | .call { callee:= .value g,args, .. }=>match s with
   | .r rv::s'=>match st.ev g with
     |some v=>(st.eN v).bind fun p=>match p with
      | .fn f caps=>(eB st args.toList).bind fun gm=>
        if cc v||args.toList.any (fun x=>((st.ev x).map cc).getD true) then (if ki rv.v then some ({ v:= .pv rv.v},s',[aa call f (gm++caps) rv]) else none)
        else some ({ v:= .pv rv.v,gr:=rv.gr},s',[aa call f (gm++caps) rv])
      |_=>none
     |none=>none
   |_=>none
 |_=>(quiet P call o st).map fun m=>(m,s,[])
def oZ (P:Program) (call:Cl) (o:Oper) (st:St) (s:List El):Option (Ow Made):=
 match s,o.dst,o.op with
 |_,_, .index .. =>o6 P call o st s
 | .i d x::s',some d',_=>if d=d' then (o6 P call o st s').bind fun r=>match r.1.v with
  | .pv (.lit (.int k y))=>some ({ r.1 with v:= .pv (.lit (.int k x))},r.2.1,(y=x)::r.2.2)
  |_=>none else o6 P call o st s
 |_,_,_=>o6 P call o st s
def rQ (st:St):Option Operand→Option (Option Value)
 |none=>some none
 |some x=>(st.val x).map some
def AR (P:Program) (call:Cl) (o:Oper) (st:St) (s:List El):Option (Ow Made):=
 match s,o.dst,o.op with
 | .w d s'::r,some d', .slice t x lo hi none=>if d=d' then match st.ev x with
  |some (.pv (.lit (.string str)))=>(rQ st lo).bind fun l=>(rQ st hi).bind fun h=>some ({ v:= .pv (.lit (.string s'))},r,[C8 P t str l h s'])
  |_=>none else oZ P call o st s
 | .w d s'::r,some d', .convert src dst x=>if d=d' then match st.pv x,P.underlying src,P.underlying dst with
  |some (.sl 1 n cs),some (.slice e),some .string=>match P.underlying e with
   |some (.int .u8)=>some ({ v:= .pv (.lit (.string s'))},r,[jA cs s'])
   |_=>none
  |_,_,_=>none else oZ P call o st s
 |_,_,_=>oZ P call o st s
def o5 (P:Program) (call:Cl) (o:Oper) (st:St) (s:List El):Option (Ow Made):=
 match s,o.dst with
 | .v d m::s',some d'=>if d=d' then some (m,s',[quiet P call o st=some m]) else oZ P call o st s
 |_,_=>AR P call o st s
def oG (P:Program) (o:Oper) (st:St) (sc:List El):Option (Ow St):=
 match o.op with
 | .store t a x=>match st.ev a with
   |some (.xe u off)=>if o.dst=none then match look st.sl u,st.pv x with
    |some (.ex sz n cs),some p=>if some p.cells.length=bV P t∧gu p=false then some ({ st with sl:=(u, .ex sz n (splice cs off p.cells))::bH st.sl u},sc,[off+p.cells.length≤cs.length]) else none
    |_,_=>none else none
   |some (.bp k off)=>match sc with
    | .s cs'::eT=>if o.dst=none then match x,st.ev x,look st.bx k with
      | .tmp u,some (.pv p),some cs=>if some p.cells.length=bV P t∧gu p=false∧(aJ st.gr (.s u)).isNone=true then some ({ st with bx:=(k,cs')::bH st.bx k,gr:=st.gr.filter (fun x=>x.1.out k off p.cells.length),tg:=st.tg.map (mC k off p.cells.length)},eT,[off+p.cells.length≤cs.length,cg cs off p.cells cs']) else none
      | .const _,some (.pv p),some cs=>if some p.cells.length=bV P t∧gu p=false then some ({ st with bx:=(k,cs')::bH st.bx k,gr:=st.gr.filter (fun x=>x.1.out k off p.cells.length),tg:=st.tg.map (mC k off p.cells.length)},eT,[off+p.cells.length≤cs.length,cg cs off p.cells cs']) else none
      |_,_,_=>none else none
    |_=>(effect P o st).map fun m=>(m,sc,[])
   |_=>(effect P o st).map fun m=>(m,sc,[])
 | .makeSlice t l c=>match sc with
   | .c b::eT=>o.dst.bind fun d=>match P.underlying t,(st.pv l).bind cn,(st.pv c).bind cn with
     |some (.slice e),some n,some m=>(bV P e).bind fun s=>(jz P e).bind fun z=>
      if z.cells.length=s∧0<s then
       (match b,eT with
        |false, .f cs0::Kr=>(st.dw d cs0 (.bs d 0 s n.toNat)).map fun s'=>(s',Kr,[0≤n∧n≤m∧m* P.bytesOf e≤room∧m≤room,decide (n=0)=false,fP z.cells n.toNat cs0])
        |_,_=>(if b then some (st.made (some d) { v:= .pv (.sl s 0 []),gr:=some s}) else st.dw d (bq z.cells n.toNat) (.bs d 0 s n.toNat)).map fun s'=>(s',eT,[0≤n∧n≤m∧m* P.bytesOf e≤room∧m≤room,decide (n=0)=b])) else none
     |_,_,_=>none
   |_=>none
 | .call { callee:= .builtin .append,args,argTypes}=>o.dst.bind fun d=>match args.toList,argTypes.toList with
   |[x,y],[T,U]=>match P.underlying T,P.underlying U with
    |some (.slice e),some (.slice _)=>(bV P e).bind fun s=>(jz P e).bind fun z=>(st.pv x).bind fun p=>(qD p).bind fun v=>((st.pv y).bind qD).bind fun u=>
     if 0<s∧z.cells.length=s then
      match p with
      | .lit _=>match sc with
        | .c b::eT=>some (if b then st.put (some d) (.pv p) else st.made (some d) { v:= .pv (.sl s u.1 u.2),gr:=some s},eT,[(v.1+u.1)* P.bytesOf e≤room∧v.1+u.1≤room,u.2.length=u.1* s∧v.2.length=v.1* s,decide (u.1=0)=b])
        |_=>none
      |_=>match x with
       | .tmp t=>
         (if aJ st.gr (.s t)=some s then some (Pl.s t) else match st.tag t with|some q=>if aJ st.gr q=some s then some q else none|none=>none).map fun q=>
          match sc with
          | .p m cs'::eT=>(({ st with gr:=st.gr.filter (fun x=>x.1≠q),tg:=st.tg.map (fX q)}:St).made (some d) { v:= .pv (.sl s m cs'),gr:=some s},eT,[JB v.1 u.1 v.2 u.2 (P.bytesOf e) s m cs'])
          |_=>(({ st with gr:=st.gr.filter (fun x=>x.1≠q),tg:=st.tg.map (fX q)}:St).made (some d) { v:= .pv (.sl s (v.1+u.1) (v.2++u.2)),gr:=some s},sc,[(v.1+u.1)* P.bytesOf e≤room∧v.1+u.1≤room,u.2.length=u.1* s∧v.2.length=v.1* s])
       |_=>none
     else none
    |_,_=>none
   |_,_=>none
 |_=>(effect P o st).map fun m=>(m,sc,[])
def At (call:Cl) (o:Oper) (st:St) (f:Nat) (vs:List AV) (s:List El):Option (Ow St):=
 match s with
 | .m r cs::s'=>(gD vs).bind fun g=>(nU st vs).bind fun ms=>if NU r then some ((st.cZ g.1 cs).put o.dst (xp g.1 g.2 r),s',[eH call f ms r cs]) else none
 |_=>none
def B8 (call:Cl) (o:Oper) (st:St) (s:List El):Option (Ow St):=
 match s with
 | .r rv::s'=>match o.op with
   | .call { callee:= .value g,args, .. }=>match st.ev g with
     |some (.pv (.fn f caps))=>if args.toList.any (fun x=>((st.ev x).map cc).getD true) then none else
      (eB st args.toList).bind fun gm=>o.dst.bind fun d=>match rv.v,rv.gr with
       | .sl sz n cs,some z=>if z=sz then (st.dw d cs (.bs d 0 sz n)).map fun s2=>(s2,s',[aa call f (gm++caps) rv,cs.all cJ=true]) else none
       |_,_=>none
     |_=>none
   |_=>none
 |_=>none
def Dd (P:Program) (call:Cl) (o:Oper) (st:St) (s:List El):Option (Ow St):=
 match kF st o with
 |some (f,vs)=>if call.im f then At call o st f vs s else if call.ex f (o.dst.getD 0) then B8 call o st s else if ig o.op then (o5 P call o st s).map fun x=>(st.made o.dst x.1,x.2) else oG P o st s
 |none=>if ig o.op then (o5 P call o st s).map fun x=>(st.made o.dst x.1,x.2) else oG P o st s
def pH (P:Program) (call:Cl) (ops:List Oper):List Oper→St→List El→Option (Ow St)
 |[],st,s=>some (st,s,[])
 |o::l,st,s=>(eo ops o st).bind fun
  |true=>(Dd P call o st s).bind fun y=>(pH P call ops l y.1 y.2.1).map fun z=>(z.1,z.2.1,y.2.2++z.2.2)
  |false=>pH P call ops l (st.put o.dst fN) s
def wS (call:Cl) (o:Oper) (st:St) (s:List El):Option (Ow Made):=
 match s with
 | .r rv::s'=>match o.op with
   | .call { callee:= .value (.func f),args, .. }=>if args.toList.any (fun x=>((st.ev x).map cc).getD true) then none else
     (eB st args.toList).bind fun gm=>match rv.v,rv.gr with
      | .sl sz n cs,some z=>if z=sz then some ({ v:= .bX cs (some (sz,n))},s',[aa call f gm rv,cs.all cJ=true]) else none
      |_,_=>none
   |_=>none
 |_=>none
def xo (P:Program) (call:Cl) (o:Oper) (st:St) (s:List El):Option (Ow Made):=
 if B9 call o then wS call o st s else match o.op with
 | .assign _| .alloc _=>(eY P call o st).map fun m=>(m,s,[])
 |_=>(o5 P call o st s).bind fun x=>if jH x.1.v then none else some ({ x.1 with gr:=none},x.2)
def oF (P:Program) (call:Cl) (ops:List Oper):List Oper→St→List El→Option (Ow St)
 |[],st,s=>some (st,s,[])
 |o::l,st,s=>(eo ops o st).bind fun
  |true=>(xo P call o st s).bind fun y=>(oF P call ops l (st.gJ o.dst y.1) y.2.1).map fun z=>(z.1,z.2.1,y.2.2++z.2.2)
  |false=>oF P call ops l (st.gJ o.dst { v:=fN}) s
def tV (P:Program) (call:Cl) (ops:List Oper) (draw:Bool) (st:St) (s:List El):Option (Ow St):=
 if draw then
  let n:=u9 call ops
  if ((ops.take n).all (pQ st)&&zU call ops n&&(!Ep ops||mD (vL ops) ops.toArray))=true then (oF P call ops (ops.take n) st s).bind fun x=>(x.1.settle (ops.take n)).bind fun s'=>(pH P call ops (ops.drop n) s' x.2.1).map fun y=>(y.1,y.2.1,x.2.2++y.2.2) else none
 else pH P call ops ops st s
def fB (g:Bool) (st:St) (t:Nat) (sc:List El):Ow St:=
 match look st.sl t,sc with
 |some (.bs k off sz n), .f cs'::eT=>match look st.bx k with
  |some cs=>((st.ep t k).made (some t) { v:= .pv (.sl sz n cs'),gr:=wY g off sz},eT,[cH cs off (n* sz) cs'])
  |none=>(st.gh g t,sc,[])
 |_,_=>(st.gh g t,sc,[])
def hY:List Nat→St→List El→Ow St
 |[],st,sc=>(st,sc,[])
 |t::l,st,sc=>((hY l (fB false st t sc).1 (fB false st t sc).2.1).1,(hY l (fB false st t sc).1 (fB false st t sc).2.1).2.1,(fB false st t sc).2.2++(hY l (fB false st t sc).1 (fB false st t sc).2.1).2.2)
theorem v8 {g:Bool} {st:St} {t:Nat} {sc:List El} (h:cO (fB g st t sc).2.2):(fB g st t sc).1=st.gh g t:=by
 unfold fB at h ⊢
 split at h
 · rename_i k off sz n cs' eT h1
   split at h
   · rename_i cs h2
     have h3:=h.1
     simp only [St.gh,h1,h2]
     rw [h3]
   · rfl
 · rfl
theorem rZ:∀{l:List Nat} {st:St} {sc:List El},cO (hY l st sc).2.2→(hY l st sc).1=l.foldl St.pN st
 |[],st,sc,_=>rfl
 |t::l,st,sc,h=>by
  have h':=h.app
  simp only [hY,List.foldl_cons]
  rw [rZ h'.2,v8 h'.1];rfl
def vv (f:St→List El→Option (Ow (Xt×St))):Nat→St→List El→Option (Ow (Xt×St))
 |0,_,_=>none
 |n+1,st,s=>(f st s).bind fun x=>match x.1.1 with
  | .normal=>(vv f n x.1.2 x.2.1).map fun y=>(y.1,y.2.1,x.2.2++y.2.2)
  |_=>some x
def mN (gp body:St→List El→Option (Ow (Xt×St))) (cR:St) (ps:List Nat):List (List PV)→St→List El→Option (Ow (Xt×St))
 |[],cur,s=>some ((.normal,cR.after cur),s,[])
 |x::xs,cur,s=>(gp (mF ps x (cR.after cur)) s).bind fun y=>match y.1.1 with
  | .normal=>(body y.1.2 y.2.1).bind fun z=>match z.1.1 with
    | .normal=>(mN gp body cR ps xs z.1.2 z.2.1).map fun t=>(t.1,t.2.1,y.2.2++(z.2.2++t.2.2))
    |e=>some ((e,cR.after z.1.2),z.2.1,y.2.2++z.2.2)
  |_=>none
def C9 (P:Program) (call:Cl) (ops:Array Oper) (i:Nat) (st:St) (s:List El):Option (Ow St):=
 (ops[i]?).bind fun o=>(eo ops.toList o st).bind fun
  |true=>Dd P call o st s
  |false=>some (st.put o.dst fN,s,[])
def yP {α β:Type} (f:α→List El→Option (Ow (List β))) (r:List α) (s:List El):Option (Ow (List β)):=
 r.foldr (fun i (k:List El→Option (Ow (List β))) s=>(f i s).bind fun y=>(k y.2.1).map fun z=>(y.1++z.1,z.2.1,y.2.2++z.2.2)) (fun s=>some ([],s,[])) s
def uD (P:Program) (call:Cl) (ops:Array Oper):Nat→Array Bool→St→List El→Option (Ow (List St))
 |0,listed,st,s=>if (Region.ready .any ops listed).isEmpty then some ([st],s,[]) else none
 |g+1,listed,st,s=>if (Region.ready .any ops listed).isEmpty then none else
   yP (fun i s=>(C9 P call ops i st s).bind fun x=>(uD P call ops g (listed.setIfInBounds i true) x.1 x.2.1).map fun y=>(y.1,y.2.1,x.2.2++y.2.2)) (Region.ready .any ops listed) s
def vG (ks:List Nat):List St→Option (St×List Prop)
 |[]=>none
 |s::l=>some (s.bK ks,l.map fun x=>x.bK ks=s.bK ks)
def cX (P:Program) (call:Cl) (it:Nat→List PV→Option (Nat×List (List PV))) (k:Nat) (note:Nat→fD):Code→St→List El→Option (Ow (Xt×St))
 | .skip,st,s=>some ((.normal,st),s,[])
 | .region id ops dr,st,s=>if dr&&(note id).perm then
     (uD P call ops ops.size (Array.replicate ops.size false) (hY (note id).still st s).1 (hY (note id).still st s).2.1).bind fun x=>(vG (note id).keep x.1).map fun y=>((.normal,y.1),x.2.1,(hY (note id).still st s).2.2++(x.2.2++y.2))
   else (tV P call ops.toList dr (hY (note id).still st s).1 (hY (note id).still st s).2.1).map fun x=>((.normal,x.1.bK (note id).keep),x.2.1,(hY (note id).still st s).2.2++x.2.2)
 | .seq a b,st,s=>(cX P call it k note a st s).bind fun x=>match x.1.1 with
   | .normal=>(cX P call it k note b x.1.2 x.2.1).map fun y=>(y.1,y.2.1,x.2.2++y.2.2)
   |_=>some x
 | .cond c t e,st,s=>(st.val c).bind fun
   | .bool true=>cX P call it k note t st s
   | .bool false=>cX P call it k note e st s
   |_=>none
 | .block id c,st,s=>(cX P call it k note c st s).map fun x=>match x.1.1 with
   | .exit j=>if j=id then ((.normal,x.1.2),x.2) else x
   |_=>x
 | .loop c,st,s=>match s with
   | .l x s1::s'=>some ((x,s1),s',[za P call it k note c st x s1])
   | .u n::s'=>(vv (cX P call it k note c) n st s').map fun x=>(x.1,x.2.1,(n≤k)::x.2.2)
   |_=>none
 | .rangeFunc g ps gp body,st,s=>(st.pv g).bind fun
   | .fn f caps=>(it f caps).bind fun x=>if x.1=ps.size then
    mN (cX P call it k note gp) (cX P call it k note body) (st.iu (ps.toList++(dstsOf gp++dstsOf body))) ps.toList x.2 (st.iu (ps.toList++(dstsOf gp++dstsOf body))) s else none
   |_=>none
 | .exit id,st,s=>some ((.exit id,st),s,[])
 | .ret,st,s=>some ((.ret,st),s,[])
 |_,_,_=>none
def HV (P:Program) (rs:List ResultVar) (st:St) (sc:List El):Option (RV×List Prop):=
 match sc,rs with
 |[],_=>(jD P st rs).map fun r=>(r,[])
 |[.f cs'],[.tmp t]=>match (fB true st t [.f cs']).2.1 with
  |[]=>(pJ P (fB true st t [.f cs']).1 (.tmp t)).map fun r=>(r,(fB true st t [.f cs']).2.2)
  |_=>none
 |_,_=>none
def zf (P:Program) (call:Cl) (it:Nat→List PV→Option (Nat×List (List PV))) (k:Nat) (note:Nat→fD) (fn:Func) (args:List PV) (s:List El):Option (RV×List Prop):=
 fn.body.bind fun c=>(cX P call it k note c (.enter args) s).bind fun x=>match x.1.1 with
   | .exit _=>none
   |_=>(HV P fn.results.toList x.1.2 x.2.1).map fun r=>(r.1,x.2.2++r.2)
def wL (P:Program) (call:Cl) (it:Nat→List PV→Option (Nat×List (List PV))) (k:Nat) (note:Nat→fD) (fn:Func) (ms:List MA) (s:List El):Option ((MR×List PV)×List Prop):=
 fn.body.bind fun c=>if flat c&&(dstsOf c).all (fun d=>d !=gk) then (cX P call it k note c (.fU ms) s).bind fun x=>match x.1.1,x.2.1 with
   | .exit _,_=>none
   |_,[]=>(uj x.1.2 (jP ms) fn.results.toList).bind fun r=>(look x.1.2.bx gk).bind fun cs'=>(dn ms).map fun cs=>((r,cs'),(cs'.all cJ=true)::(cs'.length=cs.length)::x.2.2)
   |_,_=>none else none
section
variable {P:Program} {it:Nat→List PV→Option (Nat×List (List PV))} {call:Cl} {k:Nat} {note:Nat→fD}
theorem Ey {op:BinOp} {t:TypeId} {x y:Operand} {a b v:Value} {l:List Prop} (e:zn op a b=some (v,l)) (h:cO l):dY (cM P (do eqGuard op t x y a b;binOp op t a b))=some { v:= .pv (.lit v)}:=by
 unfold zn at e
 split at e
 · simp only [Option.some.injEq,Prod.mk.injEq] at e
   obtain ⟨rfl,rfl⟩:=e
   have:=of_decide_eq_false h.1
   simp [dY,cM,eqGuard,binOp,Op.shift,if_neg this,aB,iS,ir,Bind.bind,Sem.bind,pure,Pure.pure]
 · simp only [Option.some.injEq,Prod.mk.injEq] at e
   obtain ⟨rfl,rfl⟩:=e
   have:=of_decide_eq_false h.1
   simp [dY,cM,eqGuard,binOp,Op.shift,if_neg this,aB,iS,ir,Bind.bind,Sem.bind,pure,Pure.pure]
 · split at e
   · rename_i hk
     subst hk
     simp only [Option.some.injEq,Prod.mk.injEq] at e
     obtain ⟨rfl,rfl⟩:=e
     have:=of_decide_eq_false h.1
     simp [dY,cM,eqGuard,binOp,Op.intDiv,if_neg this,aB,iS,ir,Bind.bind,Sem.bind,pure,Pure.pure]
   · simp at e
 · split at e
   · rename_i hk
     subst hk
     simp only [Option.some.injEq,Prod.mk.injEq] at e
     obtain ⟨rfl,rfl⟩:=e
     have:=of_decide_eq_false h.1
     simp [dY,cM,eqGuard,binOp,Op.intDiv,if_neg this,aB,iS,ir,Bind.bind,Sem.bind,pure,Pure.pure]
   · simp at e
 · simp at e
theorem BO {t:TypeId} {str:ByteArray} {k:IntKind} {n b:Int} (hu:P.underlying t=some .string) (h:jg str n=some b):cM P (Instr.index t (.string str) (.int k n))=some (.lit (.int .u8 b)):=by
 unfold jg at h
 simp only [Option.map_eq_some_iff] at h
 obtain ⟨c,h1,rfl⟩:=h
 split at h1
 · rename_i h0
   simp [cM,Instr.index,asIntOf,underlying,program,hu,h0,h1,aB,iS,ir,Bind.bind,Sem.bind,pure,Pure.pure]
 · simp at h1
theorem nY {o:Oper} {st:St} {s s':List El} {m:Made} {l:List Prop} (e:o6 P call o st s=some (m,s',l)) (hl:cO l):quiet P call o st=some m:=by
 have dflt:∀{s:List El},((quiet P call o st).map fun m=>(m,s,([]:List Prop)))=some (m,s',l)→quiet P call o st=some m:=fun e=>by
  simp only [Option.map_eq_some_iff,Prod.mk.injEq] at e
  obtain ⟨q,hq,rfl,_,_⟩:=e
  exact hq
 unfold o6 at e
 split at e
 · rename_i op t x y p ho
   split at e
   · split at e
     · rename_i b s1
       simp only [Option.bind_eq_some_iff] at e
       obtain ⟨a,ha,b',hb,e⟩:=e
       split at e
       · rename_i c hc
         simp only [Option.some.injEq,Prod.mk.injEq] at e
         obtain ⟨rfl,rfl,rfl⟩:=e
         have:c=b:=hl.1
         subst this
         simp only [quiet,ho,ha,hb,Option.bind_some,hc,dY,Option.map_some]
       · simp at e
     · rename_i b s1
       simp only [Option.bind_eq_some_iff,Option.some.injEq,Prod.mk.injEq] at e
       obtain ⟨a,ha,b',hb,rfl,rfl,rfl⟩:=e
       have hc:=hl.1
       simp only [quiet,ho,ha,hb,Option.bind_some,dY]
       rw [hc];rfl
     · simp at e
   · split at e
     · rename_i v ob hv
       simp only [Option.some.injEq,Prod.mk.injEq] at e
       obtain ⟨rfl,rfl,rfl⟩:=e
       simp only [Option.bind_eq_some_iff] at hv
       obtain ⟨a,ha,b,hb,hv⟩:=hv
       simp only [quiet,ho,ha,hb,Option.bind_some]
       exact Ey hv hl
     · exact dflt e
 · rename_i t x i ho
   split at e
   · rename_i d b s1 str hp
     split at e
     · rename_i hc
       simp only [Option.map_eq_some_iff,Prod.mk.injEq] at e
       obtain ⟨n,hn,rfl,rfl,rfl⟩:=e
       have hu:=FG hc.2
       simp only [quiet,ho,hp]
       obtain ⟨k,hk⟩:∃k,st.pv i=some (.lit (.int k n)):=by
        simp only [Option.bind_eq_some_iff] at hn
        obtain ⟨q,h1,h2⟩:=hn
        unfold cn at h2
        split at h2
        · simp only [Option.some.injEq] at h2;subst h2;exact ⟨_,h1⟩
        · simp at h2
       simp only [St.val,hp,hk,hu,Option.bind_some,valOf,BO hu hl.1,dY,Option.map_some]
     · simp at e
   · rename_i d p s1 cs hp
     split at e
     · split at e
       · rename_i len el hu
         simp only [Option.bind_eq_some_iff,Option.some.injEq,Prod.mk.injEq] at e
         obtain ⟨n,⟨q,hq,hn⟩,z,hz,rfl,rfl,rfl⟩:=e
         simp only [quiet,ho,hp,hu]
         simp only [hq,Option.bind_some,hn,hz]
         rw [if_pos hl.1,hl.2.1];rfl
       · simp at e
     · exact dflt e
   · exact dflt e
 · rename_i t x i ho
   simp only [Option.bind_eq_some_iff] at e
   obtain ⟨n,hn,e⟩:=e
   split at e
   · rename_i el hu
     simp only [Option.bind_eq_some_iff] at e
     obtain ⟨z,hz,e⟩:=e
     split at e
     · rename_i sz len cs hx
       split at e
       · rename_i hs
         split at e
         · split at e
           · simp only [Option.some.injEq,Prod.mk.injEq] at e
             obtain ⟨rfl,rfl,rfl⟩:=e
             simp only [quiet,ho,Option.bind_eq_some_iff]
             refine ⟨n,hn, ?_⟩
             simp only [hu,Option.bind_eq_some_iff]
             refine ⟨z,hz, ?_⟩
             simp only [hx]
             rw [if_pos ⟨hs,hl.1.1.1,hl.1.1.2⟩,hl.1.2]
           · simp at e
         · simp only [Option.some.injEq,Prod.mk.injEq] at e
           obtain ⟨rfl,rfl,rfl⟩:=e
           simp only [quiet,ho,Option.bind_eq_some_iff]
           refine ⟨n,hn, ?_⟩
           simp only [hu,Option.bind_eq_some_iff]
           refine ⟨z,hz, ?_⟩
           simp only [hx]
           rw [if_pos ⟨hs,hl.1.1,hl.1.2⟩]
       · simp at e
     · rename_i u hx
       split at e
       · rename_i sz len cs Fq
         split at e
         · rename_i hs
           simp only [Option.some.injEq,Prod.mk.injEq] at e
           obtain ⟨rfl,rfl,rfl⟩:=e
           simp only [quiet,ho,Option.bind_eq_some_iff]
           refine ⟨n,hn, ?_⟩
           simp only [hu,Option.bind_eq_some_iff]
           refine ⟨z,hz, ?_⟩
           simp only [hx,Fq]
           rw [if_pos ⟨hs,hl.1.1,hl.1.2⟩]
         · simp at e
       · simp at e
     · rename_i k off sz len hx
       split at e
       · rename_i hs
         split at e
         · split at e
           · simp only [Option.some.injEq,Prod.mk.injEq] at e
             obtain ⟨rfl,rfl,rfl⟩:=e
             have h1:=hl.1.1
             have h2:=hl.1.2
             subst h1
             simp only [quiet,ho,Option.bind_eq_some_iff]
             refine ⟨_,hn, ?_⟩
             simp only [hu,Option.bind_eq_some_iff]
             refine ⟨z,hz, ?_⟩
             simp only [hx]
             rw [if_pos ⟨hs,by omega,by omega⟩,Int.toNat_natCast]
           · simp at e
         · simp only [Option.some.injEq,Prod.mk.injEq] at e
           obtain ⟨rfl,rfl,rfl⟩:=e
           simp only [quiet,ho,Option.bind_eq_some_iff]
           refine ⟨n,hn, ?_⟩
           simp only [hu,Option.bind_eq_some_iff]
           refine ⟨z,hz, ?_⟩
           simp only [hx]
           rw [if_pos ⟨hs,hl.1.1,hl.1.2⟩]
       · simp at e
     · simp at e
   · rename_i len el hu
     split at e
     · rename_i d i' s1 k off hx
       split at e
       · simp only [Option.bind_eq_some_iff,Option.some.injEq,Prod.mk.injEq] at e
         obtain ⟨z,hz,rfl,rfl,rfl⟩:=e
         have h1:=hl.1.1
         have h2:=hl.1.2
         subst h1
         simp only [quiet,ho,Option.bind_eq_some_iff]
         refine ⟨_,hn, ?_⟩
         simp only [hu,Option.bind_eq_some_iff]
         refine ⟨z,hz, ?_⟩
         simp only [hx]
         rw [if_pos ⟨by omega,by omega⟩,Int.toNat_natCast]
       · exact dflt e
     · exact dflt e
   · exact dflt e
 · rename_i t x ho
   split at e
   · rename_i d p s1
     split at e
     · split at e
       · rename_i k o' hx
         simp only [Option.map_eq_some_iff,Prod.mk.injEq] at e
         obtain ⟨cs,hk,rfl,rfl,rfl⟩:=e
         simp only [quiet,ho,hx,Option.bind_eq_some_iff]
         refine ⟨cs,hk, ?_⟩
         rw [hl.1];rfl
       · rename_i cs hx
         simp only [Option.some.injEq,Prod.mk.injEq] at e
         obtain ⟨rfl,rfl,rfl⟩:=e
         simp only [quiet,ho,hx]
         rw [hl.1];rfl
       · simp at e
     · exact dflt e
   · exact dflt e
 · rename_i t x lo hi mx ho
   split at e
   · rename_i k off sz n hx
     split at e
     · rename_i UZ U0 el hu
       split at e
       · rename_i hs
         simp only [Option.bind_eq_some_iff] at e
         obtain ⟨h,hh,lw,Fs,e⟩:=e
         split at e
         · split at e
           · simp only [Option.some.injEq,Prod.mk.injEq] at e
             obtain ⟨rfl,rfl,rfl⟩:=e
             obtain ⟨h1,h2,h3,_⟩:=hl
             simp only [quiet,ho,hx,hu]
             rw [if_pos hs]
             simp only [Option.bind_eq_some_iff]
             refine ⟨h,hh,lw,Fs, ?_⟩
             rw [if_pos h1,h2,h3]
           · simp at e
         · simp only [Option.some.injEq,Prod.mk.injEq] at e
           obtain ⟨rfl,rfl,rfl⟩:=e
           simp only [quiet,ho,hx,hu]
           rw [if_pos hs]
           simp only [Option.bind_eq_some_iff]
           refine ⟨h,hh,lw,Fs, ?_⟩
           rw [if_pos hl.1]
       · simp at e
     · simp at e
   · rename_i sz n cs hx
     split at e
     · rename_i UZ U0 el hu
       split at e
       · rename_i hs
         simp only [Option.bind_eq_some_iff] at e
         obtain ⟨h,hh,lw,Fs,e⟩:=e
         split at e
         · split at e
           · simp only [Option.some.injEq,Prod.mk.injEq] at e
             obtain ⟨rfl,rfl,rfl⟩:=e
             obtain ⟨h1,h2,h3,_⟩:=hl
             simp only [quiet,ho,hx,hu]
             rw [if_pos hs]
             simp only [Option.bind_eq_some_iff]
             refine ⟨h,hh,lw,Fs, ?_⟩
             rw [if_pos h1,←h2,←h3]
           · simp at e
         · simp only [Option.some.injEq,Prod.mk.injEq] at e
           obtain ⟨rfl,rfl,rfl⟩:=e
           simp only [quiet,ho,hx,hu]
           rw [if_pos hs]
           simp only [Option.bind_eq_some_iff]
           refine ⟨h,hh,lw,Fs, ?_⟩
           rw [if_pos hl.1]
       · simp at e
     · simp at e
   · exact dflt e
 · rename_i g args ts ho
   split at e
   · rename_i rv s1
     split at e
     · rename_i v hv
       simp only [Option.bind_eq_some_iff] at e
       obtain ⟨p,hp,e⟩:=e
       split at e
       · rename_i f caps
         simp only [Option.bind_eq_some_iff] at e
         obtain ⟨gm,has,e⟩:=e
         split at e
         · rename_i hout
           split at e
           · rename_i oR
             simp only [Option.some.injEq,Prod.mk.injEq] at e
             obtain ⟨rfl,rfl,rfl⟩:=e
             simp only [quiet,ho,hv,Option.bind_eq_some_iff]
             refine ⟨.fn f caps,hp, ?_⟩
             simp only [Option.bind_eq_some_iff]
             refine ⟨gm,has, ?_⟩
             simp only [sw,hl.1,Option.bind_some]
             rw [if_pos hout,if_pos oR]
           · simp at e
         · rename_i hout
           simp only [Option.some.injEq,Prod.mk.injEq] at e
           obtain ⟨rfl,rfl,rfl⟩:=e
           simp only [quiet,ho,hv,Option.bind_eq_some_iff]
           refine ⟨.fn f caps,hp, ?_⟩
           simp only [Option.bind_eq_some_iff]
           refine ⟨gm,has, ?_⟩
           simp only [sw,hl.1,Option.bind_some]
           rw [if_neg hout]
       · simp at e
     · simp at e
   · simp at e
 · exact dflt e
theorem nX {o:Oper} {st:St} {s s':List El} {m:Made} {l:List Prop} (e:oZ P call o st s=some (m,s',l)) (hl:cO l):quiet P call o st=some m:=by
 unfold oZ at e
 split at e
 · exact nY e hl
 · split at e
   · simp only [Option.bind_eq_some_iff] at e
     obtain ⟨⟨m0,s0,l0⟩,h0,e⟩:=e
     split at e
     · rename_i k y hv
       simp only [Option.some.injEq,Prod.mk.injEq] at e
       obtain ⟨rfl,rfl,rfl⟩:=e
       obtain ⟨h1,h2⟩:=hl
       have:=nY h0 h2
       rw [this]
       simp only at hv
       subst h1
       cases m0
       simp only at hv
       subst hv
       rfl
     · simp at e
   · exact nY e hl
 · exact nY e hl
theorem Gl {o:Oper} {st:St} {s s':List El} {m:Made} {l:List Prop} (e:AR P call o st s=some (m,s',l)) (hl:cO l):quiet P call o st=some m:=by
 unfold AR at e
 split at e
 · rename_i d str' r d' t x lo hi hd ho
   split at e
   · split at e
     · rename_i str hx
       simp only [Option.bind_eq_some_iff,Option.some.injEq,Prod.mk.injEq] at e
       obtain ⟨lv,hlv,hv,xR,rfl,rfl,rfl⟩:=e
       have h1:=hl.1
       simp only [quiet,ho,hx,valOf,Option.bind_some]
       cases lo with
       |none=>
        simp only [rQ,Option.some.injEq] at hlv
        subst hlv
        cases hi with
        |none=>simp only [rQ,Option.some.injEq] at xR;subst xR;simp only [dY];rw [h1];rfl
        |some y=>
         simp only [rQ,Option.map_eq_some_iff] at xR
         obtain ⟨w,hw,rfl⟩:=xR
         simp only [hw,Option.bind_some,dY];rw [h1];rfl
       |some z=>
        simp only [rQ,Option.map_eq_some_iff] at hlv
        obtain ⟨w2,Ae,rfl⟩:=hlv
        cases hi with
        |none=>simp only [rQ,Option.some.injEq] at xR;subst xR;simp only [Ae,Option.bind_some,dY];rw [h1];rfl
        |some y=>
         simp only [rQ,Option.map_eq_some_iff] at xR
         obtain ⟨w,hw,rfl⟩:=xR
         simp only [hw,Ae,Option.bind_some,dY];rw [h1];rfl
     · simp at e
   · exact nX e hl
 · rename_i d str' r d' src dst x hd ho
   split at e
   · split at e
     · rename_i n cs el hx hs j8
       split at e
       · rename_i hu
         simp only [Option.some.injEq,Prod.mk.injEq] at e
         obtain ⟨rfl,rfl,rfl⟩:=e
         have h1:=hl.1
         simp only [Option.map_eq_some_iff] at h1
         obtain ⟨bs,j7,rfl⟩:=h1
         simp only [quiet,ho,hx,hs,j8,hu,j7,Option.map_some]
       · simp at e
     · simp at e
   · exact nX e hl
 · exact nX e hl
theorem yj {o:Oper} {st:St} {s s':List El} {m:Made} {l:List Prop} (e:o5 P call o st s=some (m,s',l)) (hl:cO l):quiet P call o st=some m:=by
 unfold o5 at e
 split at e
 · split at e
   · simp only [Option.some.injEq,Prod.mk.injEq] at e
     obtain ⟨rfl,rfl,rfl⟩:=e
     exact hl.1
   · exact nX e hl
 · exact Gl e hl
theorem Dj {o:Oper} {st s:St} {sc eT:List El} {l:List Prop} (e:oG P o st sc=some (s,eT,l)) (hl:cO l):effect P o st=some s:=by
 have dflt:((effect P o st).map fun m=>(m,sc,([]:List Prop)))=some (s,eT,l)→effect P o st=some s:=fun e=>by
  simp only [Option.map_eq_some_iff,Prod.mk.injEq] at e
  obtain ⟨q,hq,rfl,_,_⟩:=e
  exact hq
 unfold oG at e
 split at e
 · rename_i t a x ho
   split at e
   · rename_i u off ha
     split at e
     · rename_i hd
       split at e
       · rename_i sz n cs p hu hp
         split at e
         · rename_i hc
           simp only [Option.some.injEq,Prod.mk.injEq] at e
           obtain ⟨rfl,rfl,rfl⟩:=e
           simp only [effect,ho,if_pos hd,ha,hu,hp]
           rw [if_pos ⟨hc.1,hc.2,hl.1⟩]
         · simp at e
       · simp at e
     · simp at e
   · rename_i k off ha
     split at e
     · rename_i cs' A4
       split at e
       · rename_i hd
         split at e
         · rename_i u p cs hk hp
           split at e
           · rename_i hc
             simp only [Option.some.injEq,Prod.mk.injEq] at e
             obtain ⟨rfl,rfl,rfl⟩:=e
             obtain ⟨h1,h2,_⟩:=hl
             have fJ:st.iX k off p.cells=some { st with bx:=(k,cs')::bH st.bx k,gr:=st.gr.filter (fun x=>x.1.out k off p.cells.length),tg:=st.tg.map (mC k off p.cells.length)}:=by
              simp only [St.iX,hk,Option.bind_some]
              rw [if_pos h1,h2]
             simp only [effect,ho,if_pos hd,ha,hp]
             rw [if_pos ⟨hc.1,hc.2.1⟩,fJ]
             simp only [Option.map_some,Option.some.injEq]
             have hno:aJ (st.gr.filter (fun x=>x.1.out k off p.cells.length)) (.s u)=none:=by
              rw [rK]
              simp only [Pl.out,if_true]
              simpa using hc.2.2
             rw [hno]
           · simp at e
         · rename_i v p cs hk hp
           split at e
           · rename_i hc
             simp only [Option.some.injEq,Prod.mk.injEq] at e
             obtain ⟨rfl,rfl,rfl⟩:=e
             obtain ⟨h1,h2,_⟩:=hl
             simp only [effect,ho,if_pos hd,ha,hp]
             rw [if_pos ⟨hc.1,hc.2⟩]
             simp only [St.iX,hk,Option.bind_some]
             rw [if_pos h1,h2]
           · simp at e
         · simp at e
       · simp at e
     · exact dflt e
   · exact dflt e
 · rename_i t ln c ho
   split at e
   · rename_i b A4
     rw [Option.bind_eq_some_iff] at e
     obtain ⟨d,hd,e⟩:=e
     split at e
     · rename_i el n m hu hn hm
       rw [Option.bind_eq_some_iff] at e
       obtain ⟨sz,hsz,e⟩:=e
       rw [Option.bind_eq_some_iff] at e
       obtain ⟨z,hz,e⟩:=e
       split at e
       · rename_i hc
         split at e
         · simp only [Option.map_eq_some_iff,Prod.mk.injEq] at e
           obtain ⟨s2,js,rfl,rfl,rfl⟩:=e
           obtain ⟨⟨h1,h2,h3,h4⟩,h5,h6,_⟩:=hl
           simp only [effect,ho,hd,Option.bind_some,hu,hn,hm,hsz,hz]
           rw [if_pos ⟨h1,h2,h3,h4,hc⟩]
           rw [if_neg (by simpa using h5),h6];exact js
         · simp only [Option.map_eq_some_iff,Prod.mk.injEq] at e
           obtain ⟨s2,js,rfl,rfl,rfl⟩:=e
           obtain ⟨⟨h1,h2,h3,h4⟩,h5,_⟩:=hl
           simp only [effect,ho,hd,Option.bind_some,hu,hn,hm,hsz,hz]
           rw [if_pos ⟨h1,h2,h3,h4,hc⟩]
           cases b with
           |true=>rw [if_pos (by simpa using h5)];exact js
           |false=>rw [if_neg (by simpa using h5)];exact js
       · simp at e
     · simp at e
   · simp at e
 · rename_i args ts ho
   rw [Option.bind_eq_some_iff] at e
   obtain ⟨d,hd,e⟩:=e
   split at e
   · rename_i x y T U ha hts
     split at e
     · rename_i el Z6 hT hU
       simp only [Option.bind_eq_some_iff] at e
       obtain ⟨sz,hsz,z,hz,p,hp,v,hv,u,⟨p2,Nh,hu⟩,e⟩:=e
       split at e
       · rename_i hc
         simp only [effect,ho,hd,Option.bind_some,ha,hts,hT,hU,hsz,hz,hp,hv,Nh,hu]
         split at e
         · rename_i v0
           split at e
           · rename_i b A4
             simp only [Option.some.injEq,Prod.mk.injEq] at e
             obtain ⟨rfl,rfl,rfl⟩:=e
             obtain ⟨⟨h1,h2⟩,⟨h3,h4⟩,h5,_⟩:=hl
             rw [if_pos ⟨h1,h2,hc.1,hc.2,h3,h4⟩]
             cases b with
             |true=>rw [if_pos (by simpa using h5)];rfl
             |false=>rw [if_neg (by simpa using h5)];rfl
           · simp at e
         · rename_i hnl
           split at e
           · rename_i t
             simp only [Option.map_eq_some_iff] at e
             obtain ⟨q,hq,e⟩:=e
             split at e
             · simp only [Prod.mk.injEq] at e
               obtain ⟨rfl,rfl,rfl⟩:=e
               obtain ⟨⟨⟨h5,h6⟩,⟨h1,h2⟩,h3,h4⟩,_⟩:=hl
               rw [←h5] at h1 h2
               rw [if_pos ⟨h1,h2,hc.1,hc.2,h3,h4⟩]
               cases p with
               |lit v0=>exact absurd rfl (hnl v0)
               |_=>
                exact Option.map_eq_some_iff.2 ⟨q,hq,by rw [h5,h6]⟩
             · simp only [Prod.mk.injEq] at e
               obtain ⟨rfl,rfl,rfl⟩:=e
               obtain ⟨⟨h1,h2⟩,⟨h3,h4⟩,_⟩:=hl
               rw [if_pos ⟨h1,h2,hc.1,hc.2,h3,h4⟩]
               cases p with
               |lit v0=>exact absurd rfl (hnl v0)
               |_=>
                exact Option.map_eq_some_iff.2 ⟨q,hq,rfl⟩
           · simp at e
       · simp at e
     · simp at e
   · simp at e
 · exact dflt e
theorem BX {o:Oper} {st s:St} {sc eT:List El} {l:List Prop} (e:Dd P call o st sc=some (s,eT,l)) (hl:cO l):lf P call o st=some s:=by
 have plain:(if ig o.op=true then (o5 P call o st sc).map fun x=>(st.made o.dst x.1,x.2) else oG P o st sc)=some (s,eT,l)→(if ig o.op=true then (quiet P call o st).map (st.made o.dst) else effect P o st)=some s:=fun e=>by
  split at e
  · rename_i hq
    rw [if_pos hq]
    simp only [Option.map_eq_some_iff,Prod.mk.injEq] at e ⊢
    obtain ⟨⟨m,A4,l'⟩,hm,rfl,h2⟩:=e
    simp only [Prod.mk.injEq] at h2
    obtain ⟨rfl,rfl⟩:=h2
    exact ⟨m,yj hm hl,rfl⟩
  · rename_i hq
    rw [if_neg hq]
    exact Dj e hl
 unfold Dd at e
 unfold lf
 split at e
 · rename_i f vs hc
   rw [hc]
   simp only
   split at e
   · rename_i zZ
     rw [if_pos zZ]
     unfold At at e
     split at e
     · rename_i r cs s1
       simp only [Option.bind_eq_some_iff] at e
       obtain ⟨g,hg,ms,M9,e⟩:=e
       split at e
       · rename_i hok
         simp only [Option.some.injEq,Prod.mk.injEq] at e
         obtain ⟨rfl,rfl,rfl⟩:=e
         simp only [sI,hg,M9,Option.bind_some,hl.1]
         rw [if_pos hok]
       · simp at e
     · simp at e
   · rename_i zZ
     rw [if_neg zZ]
     split at e
     · rename_i hex
       rw [if_pos hex]
       unfold B8 at e
       unfold uX
       split at e
       · rename_i rv s1
         split at e
         · rename_i g args ts ho
           simp only [ho]
           split at e
           · rename_i f' caps hg
             simp only [hg]
             split at e
             · simp at e
             · rename_i zO
               rw [if_neg zO]
               simp only [Option.bind_eq_some_iff] at e ⊢
               obtain ⟨gm,has,d,hd,e⟩:=e
               refine ⟨gm,has,rv, ?_⟩
               split at e
               · rename_i sz n cs z hv hz
                 split at e
                 · rename_i hzs
                   simp only [Option.map_eq_some_iff,Prod.mk.injEq] at e
                   obtain ⟨s2,js,rfl,rfl,rfl⟩:=e
                   obtain ⟨h1,h2,_⟩:=hl
                   refine ⟨h1,d,hd, ?_⟩
                   rw [hv,hz]
                   simp only
                   rw [if_pos ⟨hzs,h2⟩]
                   exact js
                 · simp at e
               · simp at e
           · simp at e
         · simp at e
       · simp at e
     · rename_i hex
       rw [if_neg hex]
       exact plain e
 · rename_i hc
   rw [hc]
   exact plain e
theorem pI {ops:List Oper}:∀(l:List Oper) (st s:St) (sc eT:List El) (ob:List Prop),pH P call ops l st sc=some (s,eT,ob)→cO ob→og (lf P call) ops l st=some s
 |[],st,s,sc,eT,ob,e,h=>by simp only [pH,Option.some.injEq,Prod.mk.injEq] at e;simp [og,e.1]
 |o::l,st,s,sc,eT,ob,e,h=>by
  simp only [pH,Option.bind_eq_some_iff] at e
  obtain ⟨b,hw,e⟩:=e
  simp only [og,Option.bind_eq_some_iff]
  cases b with
  |true=>
   simp only [Option.bind_eq_some_iff,Option.map_eq_some_iff,Prod.mk.injEq] at e
   obtain ⟨⟨s1,A4,l1⟩,ha,⟨s2,Kr,l2⟩,hr,rfl,rfl,rfl⟩:=e
   obtain ⟨h2,h3⟩:=h.app
   exact ⟨true,hw,by simp only [Option.bind_eq_some_iff];exact ⟨s1,BX ha h2,pI l _ _ _ _ _ hr h3⟩⟩
  |false=>exact ⟨false,hw,pI l _ _ _ _ _ e h⟩
theorem Dn {o:Oper} {st:St} {s s':List El} {m:Made} {l:List Prop} (e:wS call o st s=some (m,s',l)) (hl:cO l):oJ call o st=some m:=by
 unfold wS at e
 unfold oJ
 split at e
 · rename_i rv s1
   split at e
   · rename_i f args ts ho
     split at e
     · simp at e
     · rename_i zO
       simp only [ho]
       rw [if_neg zO]
       simp only [Option.bind_eq_some_iff] at e ⊢
       obtain ⟨gm,has,e⟩:=e
       split at e
       · rename_i sz n cs z hv hz
         split at e
         · rename_i hzs
           simp only [Option.some.injEq,Prod.mk.injEq] at e
           obtain ⟨rfl,rfl,rfl⟩:=e
           obtain ⟨h1,h2,_⟩:=hl
           refine ⟨gm,has,rv,h1, ?_⟩
           rw [hv,hz]
           simp only
           rw [if_pos ⟨hzs,h2⟩]
         · simp at e
       · simp at e
   · simp at e
 · simp at e
theorem D4 {o:Oper} {st:St} {s s':List El} {m:Made} {l:List Prop} (e:xo P call o st s=some (m,s',l)) (hl:cO l):eY P call o st=some m:=by
 unfold xo at e
 split at e
 · rename_i hx
   unfold eY
   rw [if_pos hx]
   exact Dn e hl
 rename_i Nw
 split at e
 · simp only [Option.map_eq_some_iff,Prod.mk.injEq] at e
   obtain ⟨q,hq,rfl,_,_⟩:=e
   exact hq
 · simp only [Option.map_eq_some_iff,Prod.mk.injEq] at e
   obtain ⟨q,hq,rfl,_,_⟩:=e
   exact hq
 · rename_i xT hn2
   simp only [Option.bind_eq_some_iff] at e
   obtain ⟨⟨m0,s0,l0⟩,hm,e⟩:=e
   split at e
   · simp at e
   · rename_i hx
     simp only [Option.some.injEq,Prod.mk.injEq] at e
     obtain ⟨rfl,rfl,rfl⟩:=e
     have:=yj hm hl
     unfold eY
     rw [if_neg Nw]
     split
     · rename_i ho;exact absurd ho (xT _)
     · rename_i ho;exact absurd ho (hn2 _)
     · simp only [Option.bind_eq_some_iff]
       exact ⟨m0,this,by rw [if_neg hx]⟩
theorem qP {ops:List Oper}:∀(l:List Oper) (st s:St) (sc eT:List El) (ob:List Prop),oF P call ops l st sc=some (s,eT,ob)→cO ob→j3 P call ops l st=some s
 |[],st,s,sc,eT,ob,e,h=>by simp only [oF,Option.some.injEq,Prod.mk.injEq] at e;simp [j3,e.1]
 |o::l,st,s,sc,eT,ob,e,h=>by
  simp only [oF,Option.bind_eq_some_iff] at e
  obtain ⟨b,hw,e⟩:=e
  simp only [j3,Option.bind_eq_some_iff]
  cases b with
  |true=>
   simp only [Option.bind_eq_some_iff,Option.map_eq_some_iff,Prod.mk.injEq] at e
   obtain ⟨⟨s1,A4,l1⟩,ha,⟨s2,Kr,l2⟩,hr,rfl,rfl,rfl⟩:=e
   obtain ⟨h2,h3⟩:=h.app
   exact ⟨true,hw,by simp only [Option.bind_eq_some_iff];exact ⟨s1,D4 ha h2,qP l _ _ _ _ _ hr h3⟩⟩
  |false=>exact ⟨false,hw,qP l _ _ _ _ _ e h⟩
theorem Bs {ops:List Oper} {dr:Bool} {st s:St} {sc eT:List El} {ob:List Prop} (e:tV P call ops dr st sc=some (s,eT,ob)) (h:cO ob):kD P call ops dr st=some s:=by
 unfold tV at e
 unfold kD
 cases dr with
 |false=>simp only [Bool.false_eq_true,if_false] at e ⊢;exact pI _ _ _ _ _ _ e h
 |true=>
  simp only [if_true] at e ⊢
  split at e
  · rename_i hf
    rw [if_pos hf]
    simp only [Option.bind_eq_some_iff,Option.map_eq_some_iff,Prod.mk.injEq] at e ⊢
    obtain ⟨⟨s1,A4,l1⟩,h1,s2,h2,⟨s3,sc3,l3⟩,h3,rfl,rfl,rfl⟩:=e
    obtain ⟨k1,k3⟩:=h.app
    exact ⟨s1,qP _ _ _ _ _ _ h1 k1,s2,h2,pI _ _ _ _ _ _ h3 k3⟩
  · simp at e
theorem Ao {f:St→Option (Xt×St)} {g:St→List El→Option (Ow (Xt×St))} (hf:∀st s x s' ob,g st s=some (x,s',ob)→cO ob→f st=some x):
  ∀(n k:Nat) (st:St) (s:List El) (x:Xt×St) (s':List El) (ob:List Prop),n≤k→vv g n st s=some (x,s',ob)→cO ob→bg f k st=some x
 |0,k,st,s,x,s',ob,hk,e,h=>by simp [vv] at e
 |n+1,0,st,s,x,s',ob,hk,e,h=>by omega
 |n+1,k+1,st,s,x,s',ob,hk,e,h=>by
  simp only [vv,Option.bind_eq_some_iff] at e
  obtain ⟨⟨⟨y,cR⟩,s1,l1⟩,h1,e⟩:=e
  simp only [bg,Option.bind_eq_some_iff]
  cases y with
  |normal=>
   simp only [Option.map_eq_some_iff,Prod.mk.injEq] at e
   obtain ⟨⟨x2,s2,l2⟩,h2,rfl,rfl,rfl⟩:=e
   obtain ⟨k1,k2⟩:=h.app
   exact ⟨(.normal,cR),hf _ _ _ _ _ h1 k1,Ao hf n k _ _ _ _ _ (by omega) h2 k2⟩
  |exit id=>
   simp only [Option.some.injEq,Prod.mk.injEq] at e
   obtain ⟨rfl,rfl,rfl⟩:=e
   exact ⟨(.exit id,cR),hf _ _ _ _ _ h1 h,rfl⟩
  |ret=>
   simp only [Option.some.injEq,Prod.mk.injEq] at e
   obtain ⟨rfl,rfl,rfl⟩:=e
   exact ⟨(.ret,cR),hf _ _ _ _ _ h1 h,rfl⟩
theorem sY {fa fb:St→Option (Xt×St)} {ga gb:St→List El→Option (Ow (Xt×St))} (ha:∀st s x s' ob,ga st s=some (x,s',ob)→cO ob→fa st=some x) (hb:∀st s x s' ob,gb st s=some (x,s',ob)→cO ob→fb st=some x) {cR:St} {ps:List Nat}:
  ∀(xs:List (List PV)) (cur:St) (s:List El) (x:Xt×St) (s':List El) (ob:List Prop),mN ga gb cR ps xs cur s=some (x,s',ob)→cO ob→fS fa fb cR ps xs cur=some x
 |[],cur,s,x,s',ob,e,h=>by simp only [mN,Option.some.injEq,Prod.mk.injEq] at e;simp [fS,e.1]
 |y::xs,cur,s,x,s',ob,e,h=>by
  simp only [mN,Option.bind_eq_some_iff] at e
  obtain ⟨⟨⟨t,sa⟩,s1,l1⟩,h1,e⟩:=e
  simp only [fS,Option.bind_eq_some_iff]
  cases t with
  |exit id=>simp at e
  |ret=>simp at e
  |normal=>
   simp only [Option.bind_eq_some_iff] at e
   obtain ⟨⟨⟨t2,sb⟩,s2,l2⟩,h2,e⟩:=e
   cases t2 with
   |normal=>
    simp only [Option.map_eq_some_iff,Prod.mk.injEq] at e
    obtain ⟨⟨x3,s3,l3⟩,h3,rfl,rfl,rfl⟩:=e
    obtain ⟨k1,WU⟩:=h.app
    obtain ⟨k2,k3⟩:=WU.app
    refine ⟨(.normal,sa),ha _ _ _ _ _ h1 k1, ?_⟩
    simp only [Option.bind_eq_some_iff]
    exact ⟨(.normal,sb),hb _ _ _ _ _ h2 k2,sY ha hb xs _ _ _ _ _ h3 k3⟩
   |exit id=>
    simp only [Option.some.injEq,Prod.mk.injEq] at e
    obtain ⟨rfl,rfl,rfl⟩:=e
    obtain ⟨k1,k2⟩:=h.app
    refine ⟨(.normal,sa),ha _ _ _ _ _ h1 k1, ?_⟩
    simp only [Option.bind_eq_some_iff]
    exact ⟨(.exit id,sb),hb _ _ _ _ _ h2 k2,rfl⟩
   |ret=>
    simp only [Option.some.injEq,Prod.mk.injEq] at e
    obtain ⟨rfl,rfl,rfl⟩:=e
    obtain ⟨k1,k2⟩:=h.app
    refine ⟨(.normal,sa),ha _ _ _ _ _ h1 k1, ?_⟩
    simp only [Option.bind_eq_some_iff]
    exact ⟨(.ret,sb),hb _ _ _ _ _ h2 k2,rfl⟩
theorem Hz {ops:Array Oper} {i:Nat} {st s:St} {sc eT:List El} {ob:List Prop} (e:C9 P call ops i st sc=some (s,eT,ob)) (h:cO ob):ze (lf P call) ops i st=some s:=by
 simp only [C9,Option.bind_eq_some_iff] at e
 obtain ⟨o,ho,b,hb,e⟩:=e
 simp only [ze,Option.bind_eq_some_iff]
 refine ⟨o,ho,b,hb, ?_⟩
 cases b with
 |true=>exact BX e h
 |false=>
  simp only [Option.some.injEq,Prod.mk.injEq] at e
  simp only [e.1]
theorem zG {α β:Type} {f:α→List El→Option (Ow (List β))} {g:α→Option (List β)} (hf:∀i s l s' ob,f i s=some (l,s',ob)→cO ob→g i=some l):∀(r:List α) (s:List El) (ls:List β) (s':List El) (ob:List Prop),yP f r s=some (ls,s',ob)→cO ob→r.foldr (fun i acc=>(g i).bind fun l=>acc.map (l++ ·)) (some [])=some ls
 |[],s,ls,s',ob,e,h=>by
  simp only [yP,List.foldr_nil,Option.some.injEq,Prod.mk.injEq] at e
  simp [e.1]
 |i::r,s,ls,s',ob,e,h=>by
  simp only [yP,List.foldr_cons,Option.bind_eq_some_iff,Option.map_eq_some_iff,Prod.mk.injEq] at e
  obtain ⟨⟨l1,s1,o1⟩,h1,⟨l2,s2,o2⟩,h2,rfl,rfl,rfl⟩:=e
  obtain ⟨k1,k2⟩:=h.app
  simp only [List.foldr_cons,Option.bind_eq_some_iff,Option.map_eq_some_iff]
  exact ⟨l1,hf _ _ _ _ _ h1 k1,l2,zG hf r s1 l2 s2 o2 h2 k2,rfl⟩
theorem zb {ops:Array Oper}:∀(g:Nat) (listed:Array Bool) (st:St) (sc:List El) (ls:List St) (eT:List El) (ob:List Prop),uD P call ops g listed st sc=some (ls,eT,ob)→cO ob→pG (lf P call) ops g listed st=some ls
 |0,listed,st,sc,ls,eT,ob,e,h=>by
  simp only [uD] at e
  split at e
  · rename_i he
    simp only [Option.some.injEq,Prod.mk.injEq] at e
    simp only [pG]
    rw [if_pos he,e.1]
  · simp at e
 |g+1,listed,st,sc,ls,eT,ob,e,h=>by
  simp only [uD] at e
  split at e
  · simp at e
  · rename_i he
    simp only [pG]
    rw [if_neg he]
    refine zG (fun i s l s' ob e h=> ?_) _ _ _ _ _ e h
    simp only [Option.bind_eq_some_iff,Option.map_eq_some_iff,Prod.mk.injEq] at e
    obtain ⟨⟨s1,A4,o1⟩,h1,⟨l2,Kr,o2⟩,h2,rfl,rfl,rfl⟩:=e
    obtain ⟨k1,k2⟩:=h.app
    simp only [Option.bind_eq_some_iff]
    exact ⟨s1,Hz h1 k1,zb g _ _ _ _ _ _ h2 k2⟩
theorem F4 {ks:List Nat} {ls:List St} {s:St} {ob:List Prop} (e:vG ks ls=some (s,ob)) (h:cO ob):oneOf ks ls=some s:=by
 cases ls with
 |nil=>simp [vG] at e
 |cons y l=>
  simp only [vG,Option.some.injEq,Prod.mk.injEq] at e
  obtain ⟨rfl,rfl⟩:=e
  simp only [oneOf]
  refine if_pos ?_
  intro x hx
  revert h x
  induction l with
  |nil=>intro h x hx;simp at hx
  |cons z l ih=>
   intro h x hx
   simp only [List.map_cons] at h
   rcases List.mem_cons.1 hx with rfl|hx
   · exact h.1
   · exact ih h.2 x hx
theorem ct:∀(c:Code) (st:St) (p:List El) (x:Xt×St) (p':List El) (ob:List Prop),cX P call it k note c st p=some (x,p',ob)→cO ob→cW P call it (fun g=>bg g k) note c st=some x
 | .skip,st,p,x,p',ob,e,h=>by simp only [cX,Option.some.injEq,Prod.mk.injEq] at e;simp [cW,e.1]
 | .region id ops dr,st,p,x,p',ob,e,h=>by
   simp only [cX] at e
   split at e
   · rename_i hp
     simp only [Option.map_eq_some_iff,Option.bind_eq_some_iff,Prod.mk.injEq] at e
     obtain ⟨⟨ls,p1,l⟩,hs,⟨s,obs⟩,h1,rfl,h2,rfl⟩:=e
     obtain ⟨k1,k2⟩:=h.app
     obtain ⟨k3,k4⟩:=k2.app
     simp only [cW]
     rw [if_pos hp,←rZ k1,zb _ _ _ _ _ _ _ hs k3,Option.bind_some,F4 h1 k4];rfl
   rename_i hp
   simp only [Option.map_eq_some_iff,Prod.mk.injEq] at e
   obtain ⟨⟨s,p1,l⟩,hs,rfl,h2⟩:=e
   obtain ⟨rfl,rfl⟩:=h2
   obtain ⟨k1,k2⟩:=h.app
   simp only [cW]
   rw [if_neg hp,←rZ k1,Bs hs k2];rfl
 | .seq a b,st,p,x,p',ob,e,h=>by
   simp only [cX,Option.bind_eq_some_iff] at e
   obtain ⟨⟨⟨y,s⟩,p1,l1⟩,h1,e⟩:=e
   simp only [cW,Option.bind_eq_some_iff]
   cases y with
   |normal=>
    simp only [Option.map_eq_some_iff,Prod.mk.injEq] at e
    obtain ⟨⟨x2,p2,l2⟩,h2,rfl,rfl,rfl⟩:=e
    obtain ⟨k1,k2⟩:=h.app
    exact ⟨(.normal,s),ct a _ _ _ _ _ h1 k1,ct b _ _ _ _ _ h2 k2⟩
   |exit id=>
    simp only [Option.some.injEq,Prod.mk.injEq] at e
    obtain ⟨rfl,rfl,rfl⟩:=e
    exact ⟨(.exit id,s),ct a _ _ _ _ _ h1 h,rfl⟩
   |ret=>
    simp only [Option.some.injEq,Prod.mk.injEq] at e
    obtain ⟨rfl,rfl,rfl⟩:=e
    exact ⟨(.ret,s),ct a _ _ _ _ _ h1 h,rfl⟩
 | .cond c t el,st,p,x,p',ob,e,h=>by
   simp only [cX,Option.bind_eq_some_iff] at e
   obtain ⟨v,hv,e⟩:=e
   simp only [cW,Option.bind_eq_some_iff]
   refine ⟨v,hv, ?_⟩
   split at e
   · exact ct t _ _ _ _ _ e h
   · exact ct el _ _ _ _ _ e h
   · simp at e
 | .block id c,st,p,x,p',ob,e,h=>by
   simp only [cX,Option.map_eq_some_iff] at e
   obtain ⟨⟨⟨y,s⟩,p1,l1⟩,h1,e⟩:=e
   simp only [cW,Option.map_eq_some_iff]
   cases y with
   |normal=>
    simp only [Prod.mk.injEq] at e
    obtain ⟨rfl,rfl,rfl⟩:=e
    exact ⟨_,ct c _ _ _ _ _ h1 h,rfl⟩
   |ret=>
    simp only [Prod.mk.injEq] at e
    obtain ⟨rfl,rfl,rfl⟩:=e
    exact ⟨_,ct c _ _ _ _ _ h1 h,rfl⟩
   |exit j=>
    simp only at e
    split at e
    · rename_i hj
      simp only [Prod.mk.injEq] at e
      obtain ⟨rfl,rfl,rfl⟩:=e
      exact ⟨_,ct c _ _ _ _ _ h1 h,by simp only;rw [if_pos hj]⟩
    · rename_i hj
      simp only [Prod.mk.injEq] at e
      obtain ⟨rfl,rfl,rfl⟩:=e
      exact ⟨_,ct c _ _ _ _ _ h1 h,by simp only;rw [if_neg hj]⟩
 | .loop c,st,p,x,p',ob,e,h=>by
   simp only [cX] at e
   split at e
   · simp only [Option.some.injEq,Prod.mk.injEq] at e
     obtain ⟨rfl,rfl,rfl⟩:=e
     exact h.1
   · rename_i n s1
     simp only [Option.map_eq_some_iff,Prod.mk.injEq] at e
     obtain ⟨⟨x2,s2,l2⟩,h2,rfl,rfl,rfl⟩:=e
     exact Ao (f:=cW P call it (fun g=>bg g k) note c) (fun st s x s' ob e h=>ct c st s x s' ob e h) n k _ _ _ _ _ h.1 h2 h.2
   · simp at e
 | .rangeFunc g ps gp body,st,p,x,p',ob,e,h=>by
   simp only [cX,Option.bind_eq_some_iff] at e
   obtain ⟨q,hq,e⟩:=e
   simp only [cW,Option.bind_eq_some_iff]
   refine ⟨q,hq, ?_⟩
   split at e
   · simp only [Option.bind_eq_some_iff] at e ⊢
     obtain ⟨y,hy,e⟩:=e
     refine ⟨y,hy, ?_⟩
     split at e
     · rename_i hn
       rw [if_pos hn]
       exact sY (fun st s x s' ob e h=>ct gp st s x s' ob e h) (fun st s x s' ob e h=>ct body st s x s' ob e h) _ _ _ _ _ _ e h
     · simp at e
   · simp at e
 | .exit id,st,p,x,p',ob,e,h=>by simp only [cX,Option.some.injEq,Prod.mk.injEq] at e;simp [cW,e.1]
 | .ret,st,p,x,p',ob,e,h=>by simp only [cX,Option.some.injEq,Prod.mk.injEq] at e;simp [cW,e.1]
 | .label _,_,_,_,_,_,e,_=>by simp [cX] at e
 | .goto _,_,_,_,_,_,e,_=>by simp [cX] at e
 | .scope _,_,_,_,_,_,e,_=>by simp [cX] at e
theorem Dc {fn:Func} {ms:List MA} {p:List El} {r:MR×List PV} {ob:List Prop} (e:wL P call it k note fn ms p=some (r,ob)) (h:cO ob):qO P call it (fun g=>bg g k) note fn ms=some r:=by
 simp only [wL,Option.bind_eq_some_iff] at e
 obtain ⟨c,hc,e⟩:=e
 simp only [qO,Option.bind_eq_some_iff]
 refine ⟨c,hc, ?_⟩
 split at e
 · rename_i hfl
   rw [if_pos hfl]
   simp only [Option.bind_eq_some_iff] at e ⊢
   obtain ⟨⟨⟨y,s⟩,p1,l1⟩,h1,e⟩:=e
   have fin:((uj s (jP ms) fn.results.toList).bind fun r=>(look s.bx gk).bind fun cs'=>(dn ms).map fun cs=>((r,cs'),(cs'.all cJ=true)::(cs'.length=cs.length)::l1))=some (r,ob)→
     cO l1∧((uj s (jP ms) fn.results.toList).bind fun r=>(look s.bx gk).bind fun cs'=>(dn ms).bind fun cs=>if cs'.all cJ=true∧cs'.length=cs.length then some (r,cs') else none)=some r:=fun e=>by
    simp only [Option.bind_eq_some_iff,Option.map_eq_some_iff,Prod.mk.injEq] at e
    obtain ⟨r1,hr,cs',Rs,cs,hcs,rfl,rfl⟩:=e
    obtain ⟨a1,a2,a3⟩:=h
    refine ⟨a3, ?_⟩
    simp only [hr,Rs,hcs,Option.bind_some]
    rw [if_pos ⟨a1,a2⟩]
   refine ⟨(y,s), ?_, ?_⟩
   · refine ct c _ _ _ _ _ h1 ?_
     cases y<;>cases p1<;>simp only [reduceCtorEq] at e
     all_goals (exact (fin e).1)
   · cases y<;>cases p1<;>simp only [reduceCtorEq] at e
     all_goals (exact (fin e).2)
 · simp at e
theorem B6 {rs:List ResultVar} {st:St} {sc:List El} {r:RV} {ob:List Prop} (e:HV P rs st sc=some (r,ob)) (h:cO ob):jD P st rs=some r:=by
 unfold HV at e
 split at e
 · simp only [Option.map_eq_some_iff,Prod.mk.injEq] at e
   obtain ⟨_,h1,rfl,_⟩:=e
   exact h1
 · rename_i cs' t
   split at e
   · simp only [Option.map_eq_some_iff,Prod.mk.injEq] at e
     obtain ⟨_,h1,rfl,rfl⟩:=e
     rw [v8 h] at h1
     exact h1
   · simp at e
 · simp at e
theorem Ev {fn:Func} {args:List PV} {p:List El} {r:RV} {ob:List Prop} (e:zf P call it k note fn args p=some (r,ob)) (h:cO ob):uE P call it (fun g=>bg g k) note fn args=some r:=by
 simp only [zf,Option.bind_eq_some_iff] at e
 obtain ⟨c,hc,⟨⟨y,s⟩,p1,l1⟩,h1,e⟩:=e
 simp only [uE,Option.bind_eq_some_iff]
 refine ⟨c,hc,(y,s), ?_⟩
 cases y with
 |exit j=>simp at e
 |normal=>
  simp only [Option.map_eq_some_iff,Prod.mk.injEq] at e
  obtain ⟨⟨r',l2⟩,h2,rfl,rfl⟩:=e
  exact ⟨ct c _ _ _ _ _ h1 h.app.1,B6 h2 h.app.2⟩
 |ret=>
  simp only [Option.map_eq_some_iff,Prod.mk.injEq] at e
  obtain ⟨⟨r',l2⟩,h2,rfl,rfl⟩:=e
  exact ⟨ct c _ _ _ _ _ h1 h.app.1,B6 h2 h.app.2⟩
end
end Go.Proofs.YtibbgjafjhcemaaDoor.Cul
namespace Go.Proofs.YtibbgjafjhcemaaDoor.Cul
open Go Go.RowKit
def Hl:List (Nat×(List PV→Option RV))→Nat→List PV→Option RV
 |[],_,_=>none
 |(f,g)::l,x,args=>if f=x then g args else Hl l x args
def Bl:List (Nat×(List MA→Option (MR×List PV)))→Nat→List MA→Option (MR×List PV)
 |[],_,_=>none
 |(f,g)::l,x,ms=>if f=x then g ms else Bl l x ms
def xy (l:List (Nat×(List PV→Option RV))) (ml:List (Nat×(List MA→Option (MR×List PV)))) (ex:List (Nat×Nat)):Cl:={ fn:=Hl l,mu:=Bl ml,ex:=fun f d=>ex.contains (f,d),im:=fun f=>(ml.map (·.1)).contains f}
abbrev bI (l:List (Nat×(List PV→Option RV))):Cl:=xy l [] []
def uA (P:Program) (l:List (Nat×(List PV→Option RV))):Prop:=∀f args r,Hl l f args=some r→az P f args r
def yL (P:Program) (l:List (Nat×(List MA→Option (MR×List PV)))):Prop:=∀f ms r cs',Bl l f ms=some (r,cs')→jb P f ms r cs'
theorem aE {P:Program}:uA P []:=fun f args r h=>by simp [Hl] at h
theorem aj {P:Program} {f:Nat} {g:List PV→Option RV} {l:List (Nat×(List PV→Option RV))} (h:∀args r,g args=some r→az P f args r) (hl:uA P l):uA P ((f,g)::l):=by
 intro x args r e
 simp only [Hl] at e
 split at e
 · rename_i hf;exact hf ▸h args r e
 · exact hl x args r e
theorem oU {P:Program}:yL P []:=fun f ms r cs' h=>by simp [Bl] at h
theorem qh {P:Program} {f:Nat} {g:List MA→Option (MR×List PV)} {l:List (Nat×(List MA→Option (MR×List PV)))} (h:∀ms r cs',g ms=some (r,cs')→jb P f ms r cs') (hl:yL P l):yL P ((f,g)::l):=by
 intro x ms r cs' e
 simp only [Bl] at e
 split at e
 · rename_i hf;exact hf ▸h ms r cs' e
 · exact hl x ms r cs' e
theorem sQ {P:Program} {l:List (Nat×(List PV→Option RV))} {ml:List (Nat×(List MA→Option (MR×List PV)))} {ex:List (Nat×Nat)} (h:uA P l) (hm:yL P ml):aI P (xy l ml ex):=⟨h,hm⟩
theorem aH {P:Program} {l:List (Nat×(List PV→Option RV))} (h:uA P l):aI P (bI l):=⟨h,oU⟩
end Go.Proofs.YtibbgjafjhcemaaDoor.Cul
namespace Go.Proofs.YtibbgjafjhcemaaDoor.Cul
open Go Go.RowKit
def j9:PV→Bool
 | .lit v=>ir v
 |_=>false
def jw:PV→Bool
 | .ag cs=>cs.all j9
 |p=>j9 p
def lJ:PV→Value
 | .lit v=>v
 | .ag cs=> .agg ((cs.map fun| .lit v=>v|_=>undef).toArray)
 |_=>undef
theorem Cn {w:World} {Pr:aC}:∀{cs:List PV},cs.all j9=true→aO w Pr cs (cs.map fun| .lit v=>v|_=>undef)∧One (cs.map fun| .lit v=>v|_=>undef)
 |[],_=>⟨.nil,fun v h=>by simp at h⟩
 |p::cs,h=>by
  simp only [List.all_cons,Bool.and_eq_true] at h
  obtain ⟨h1,h2⟩:=Cn h.2
  cases p with
  |lit v=>
   have hs:ir v=true:=h.1
   refine ⟨.cons (.lit hs) h1,fun u hu=> ?_⟩
   simp only [List.map_cons,List.mem_cons] at hu
   rcases hu with rfl|hu
   · cases u<;>simp_all [ir,Value.oneCell']
   · exact h2 u hu
  |_=>simp [j9] at h
theorem yg {w:World} {Pr:aC} {p:PV} (h:jw p=true):Rp w Pr p (lJ p):=by
 cases p with
 |lit v=>exact .lit h
 |ag cs=>obtain ⟨h1,h2⟩:=Cn (w:=w) (Pr:=Pr) (cs:=cs) h;exact .ag h1 h2
 |_=>simp [jw,j9] at h
theorem Cm {w:World} {Pr:aC}:∀{cs:List PV} {vs:List Value},cs.all j9=true→aO w Pr cs vs→vs=(cs.map fun| .lit v=>v|_=>undef)
 |_,_,_, .nil=>rfl
 |_,_,h, .cons h1 hs=>by
  simp only [List.all_cons,Bool.and_eq_true] at h
  rw [Cm h.2 hs]
  cases h1 with
  |lit _=>rfl
  |_=>simp [j9] at h
theorem yf {w:World} {Pr:aC} {p:PV} {v:Value} (h:jw p=true) (k:Rp w Pr p v):v=lJ p:=by
 cases k with
 |lit _=>rfl
 |ag hr h1=>simp only [lJ];rw [Cm h hr]
 |_=>simp [jw,j9] at h
theorem vH {w:World} {Pr:aC}:∀{ps:List PV} {vs:List Value},ps.all jw=true→aO w Pr ps vs→vs=ps.map lJ
 |_,_,_, .nil=>rfl
 |_,_,h, .cons h1 hs=>by
  simp only [List.all_cons,Bool.and_eq_true] at h
  rw [vH h.2 hs,yf h.1 h1];rfl
theorem vI {w:World} {Pr:aC}:∀{ps:List PV},ps.all jw=true→aO w Pr ps (ps.map lJ)
 |[],_=> .nil
 |p::ps,h=>by
  simp only [List.all_cons,Bool.and_eq_true] at h
  exact .cons (yg h.1) (vI h.2)
def JF:AV→AV
 | .pv p=> .pv p
 |_=> .dead
def Dv:AV→AV
 | .pv p=>if jw p then .pv p else .dead
 |_=> .dead
def St.only (f:AV→AV) (st:St):St:={ sl:=st.sl.map fun x=>(x.1,f x.2),bx:=[],gr:=[],tg:=[]}
def yG (o:Oper) (st:St):Option (Nat×List PV):=
 match o.op with
 | .call { callee:= .value g,args, .. }=>match st.ev g with
   |some (.pv (.lit (.func (.yield j) _ _)))=>if args.toList.any (fun x=>((st.ev x).map cc).getD true) then none else (eB st args.toList).map (j, ·)
   |_=>none
 |_=>none
section
variable (P:Program) (call:Cl) (note:Nat→fD) (yr:Nat→Bool) (l:Nat) (xs:Nat→List PV) (N:Nat) (fuel:Nat)
def uy (ops:List Oper):List Oper→St→Option Nat→(St→Option Nat→Prop)→Prop
 |[],st,k,K=>K st k
 |o::r,st,k,K=>match eo ops o st with
  |some true=>match yG o st with
   |some (j,gm)=>match k with
    |some i=>j=l∧i<N∧gm=xs i∧uy ops r ((st.only JF).put o.dst (.pv (.lit (.bool true)))) (some (i+1)) K∧uy ops r ((st.only Dv).put o.dst (.pv (.lit (.bool false)))) none K
    |none=>False
   |none=>match lf P call o st with
    |some s=>uy ops r s k K
    |none=>False
  |some false=>uy ops r (st.put o.dst fN) k K
  |none=>False
abbrev YT:=(Xt→St→Option Nat→Prop)→Prop
def y8 (f:St→Option Nat→YT) (Q:Xt→St→Option Nat→Prop):Nat→St→Option Nat→Prop
 |0,_,_=>False
 |n+1,st,k=>f st k fun x s k'=>match x with
  | .normal=>y8 f Q n s k'
  |x=>Q x s k'
def lX:Code→St→Option Nat→YT
 | .skip,st,k,Q=>Q .normal st k
 | .region id ops dr,st,k,Q=>if yr id then dr=false∧uy P call l xs N ops.toList ops.toList ((note id).still.foldl St.pN st) k (fun s k'=>Q .normal (s.bK (note id).keep) k')
   else match kD P call ops.toList dr ((note id).still.foldl St.pN st) with
    |some s=>Q .normal (s.bK (note id).keep) k
    |none=>False
 | .seq a b,st,k,Q=>lX a st k fun x s k'=>match x with
   | .normal=>lX b s k' Q
   |x=>Q x s k'
 | .cond c t e,st,k,Q=>match st.val c with
   |some (.bool true)=>lX t st k Q
   |some (.bool false)=>lX e st k Q
   |_=>False
 | .block id c,st,k,Q=>lX c st k fun x s k'=>match x with
   | .exit j=>if j=id then Q .normal s k' else Q (.exit j) s k'
   |x=>Q x s k'
 | .loop c,st,k,Q=>y8 (lX c) Q fuel st k
 | .exit id,st,k,Q=>Q (.exit id) st k
 | .ret,st,k,Q=>Q .ret st k
 |_,_,_,_=>False
end
section
variable {P:Program} {call:Cl} {note:Nat→fD} {yr:Nat→Bool} {l:Nat} {xs:Nat→List PV} {N fuel:Nat} {n:Nat} {M:Nat} {J:Nat→aC→World→Prop} {Jx:World→Prop}
def jl:ew:=⟨fun _=>none,some []⟩
def YG (J:Nat→aC→World→Prop) (Jx:World→Prop) (M:Nat) (k:Option Nat) (st:St) (a:Act) (W:World):Prop:=
 match k with
 |some i=>∃A Pi,J i Pi A∧A.grownBy W none∧(∀b o,Pi b o→∃v,A.cell? ⟨b,o,none⟩=some v)∧Good A.heap.size A Pi M jl st a W
 |none=>∃A Pi,Jx A∧A.grownBy W none∧Good A.heap.size A Pi M jl st a W
theorem gV {A W W':World} (hg:A.grownBy W none) (h:Below A.heap.size A W'):A.grownBy W' none:=⟨h.os,h.tape,h.output,h.size,fun k hk _=>h.block k hk⟩
theorem Good.below {base:Nat} {w0:World} {aN:aC} {st:St} {a:Act} {w:World} {aS:ew} (G:Good base w0 aN M aS st a w):Below base w0 w:=by
 obtain ⟨_,_,_,h,_⟩:=G;exact h
theorem YG.step {k:Option Nat} {st st':St} {a:Act} {W:World} {c:Code} {R:Exit→Act→World→Prop} {x:Exit} (G:YG J Jx M k st a W)
  (h:∀A Pi,Good A.heap.size A Pi M jl st a W→∀R:Exit→Act→World→Prop,(∀a' W',Good A.heap.size A Pi M jl st' a' W'→R x a' W')→c.wpIn Fence.wide n P R a W)
  (hR:∀a' W',YG J Jx M k st' a' W'→R x a' W'):c.wpIn Fence.wide n P R a W:=by
 cases k with
 |some i=>
  obtain ⟨A,Pi,h1,h2,h3,h4⟩:=G
  exact h A Pi h4 R fun a' W' G'=>hR a' W' ⟨A,Pi,h1,gV h2 G'.below,h3,G'⟩
 |none=>
  obtain ⟨A,Pi,h1,h2,h4⟩:=G
  exact h A Pi h4 R fun a' W' G'=>hR a' W' ⟨A,Pi,h1,gV h2 G'.below,G'⟩
theorem YG.less {k:Option Nat} {st st':St} {a:Act} {W:World} (G:YG J Jx M k st a W) (h:∀base w0 aN,Good base w0 aN M jl st a W→Good base w0 aN M jl st' a W):YG J Jx M k st' a W:=by
 cases k with
 |some i=>obtain ⟨A,Pi,h1,h2,h3,h4⟩:=G;exact ⟨A,Pi,h1,h2,h3,h _ _ _ h4⟩
 |none=>obtain ⟨A,Pi,h1,h2,h4⟩:=G;exact ⟨A,Pi,h1,h2,h _ _ _ h4⟩
theorem YG.any {k:Option Nat} {st:St} {a:Act} {W:World} (G:YG J Jx M k st a W):∃base w0 aN,Good base w0 aN M jl st a W:=by
 cases k with
 |some i=>obtain ⟨A,Pi,h1,h2,h3,h4⟩:=G;exact ⟨_,_,_,h4⟩
 |none=>obtain ⟨A,Pi,h1,h2,h4⟩:=G;exact ⟨_,_,_,h4⟩
theorem xN {W:World} {Pi:aC} {st:St} {a:Act} (hp:∀b o,Pi b o→b<W.heap.size) (hsz:a.tmps.size=M) (hd:a.defers=[]) (dj:st.bx=[]) (dO:st.gr=[]) (Fy:st.tg=[])
  (h:∀t av,look st.sl t=some av→∃v,a.tmps[t]? =some v∧(av= .dead∨∃p,av= .pv p∧Rp W Pi p v)):Good W.heap.size W Pi M jl st a W:=by
 have hnl:∀x,¬live st x:=by
  intro x hx
  cases x with
  |bx k=>obtain ⟨cs,h1⟩:=hx;rw [dj] at h1;simp [look] at h1
  |sx t=>
   rcases hx with ⟨sz,n,cs,h1⟩|⟨z,h1⟩
   · obtain ⟨v,_,h2|⟨p,h2,_⟩⟩:=h t _ h1<;>simp at h2
   · rw [dO] at h1;simp [aJ] at h1
  |cx k o=>obtain ⟨z,h1⟩:=hx;rw [dO] at h1;simp [aJ] at h1
 refine ⟨Pi,fun _=>0, ?_,Below.refl _ _,fun _ _ _ h=>h,KO.refl _,fun k b e=>by simp [jl] at e,fun _ _ _ h1 h2=>⟨h1,h2⟩,fun ds e=>by simp only [jl,Option.some.injEq] at e;rw [hd,e]⟩
 constructor
 · exact hsz
 · rw [hd];exact ⟨by simp,List.nodup_nil⟩
 · exact Nat.le_refl _
 · exact hp
 · intro t av ht
   obtain ⟨v,hv,h2⟩:=h t av ht
   refine ⟨v,hv, ?_⟩
   rcases h2 with rfl|⟨p,rfl,hr⟩
   · trivial
   · exact hr
 · exact fun x hx=>absurd hx (hnl x)
 · exact fun x _ hx=>absurd hx (hnl x)
 · intro k cs h1;rw [dj] at h1;simp [look] at h1
 · intro t z h1;rw [dO] at h1;simp [aJ] at h1
 · intro k i z h1;rw [dO] at h1;simp [aJ] at h1
 · intro t q h1;rw [Fy] at h1;simp [look] at h1
theorem yb (f:AV→AV) (st:St) (t:Nat):look (st.only f).sl t=(look st.sl t).map f:=bT (fun x=>(x.1,f x.2)) (fun _ v=>f v) (fun _=>rfl) st.sl t
theorem DW {o:Oper} {a:Act} {W:World} {K:Act→World→Prop} {Q:Exit→Act→World→Prop} {g:Operand} {args:Array Operand} {ts:Array TypeId} {fi ca:Array Value} {R:Ending→World→Prop}
  (ho:o.op= .call { callee:= .value g,args:=args,argTypes:=ts}) (hg:a.eval g= .func (.yield l) fi ca) (hf:fi= #[]) (hy:YieldAt Fence.wide (n - 1) P l (args.map a.eval) W R)
  (hR:∀e W',R e W'→∃v,e= .returned v∧K (a.put o.dst v) W'):o.wpIn Fence.wide n P a W K Q:=by
 refine ⟨fun f _=>trivial, ?_⟩
 rw [Oper.semAt_plain Fence.wide _ _ (fun c h=>by rw [ho] at h;simp at h)]
 obtain ⟨fn,tmps,assign,body,h1,h2⟩:=hy
 have:(execOp a.eval o).run P W= .ok (.round l fn tmps assign body) W:=by
  subst hf
  simp [execOp,ho,resolve,hg,Deferred.ofValue,invoke,h1]
 rw [this,Oper.uponIn_round]
 refine ⟨fun h=>by simp [Fence.wide] at h,h2.mono fun e W' h=> ?_⟩
 obtain ⟨v,rfl,hk⟩:=hR e W' h
 exact hk
end
end Go.Proofs.YtibbgjafjhcemaaDoor.Cul
namespace Go.Proofs.YtibbgjafjhcemaaDoor.Cul
open Go Go.RowKit
section
variable {P:Program} {call:Cl} {note:Nat→fD} {yr:Nat→Bool} {l:Nat} {xs:Nat→List PV} {N fuel:Nat} {n:Nat} {M:Nat} {J:Nat→aC→World→Prop} {Jx:World→Prop}
structure YP (P:Program) (n l N:Nat) (xs:Nat→List PV) (J:Nat→aC→World→Prop) (Jx:World→Prop):Prop where
 grow:∀k Pi A B,J k Pi A→A.grownBy B none→J k (Pi.plus A B) B
 ZQ:∀A B,Jx A→A.grownBy B none→Jx B
 plain:∀k,k<N→(xs k).all jw=true
 round:∀k Pi W1,J k Pi W1→k<N→YieldAt Fence.wide (n - 1) P l ((xs k).map lJ).toArray W1 fun e W'=>(e= .returned (.bool true)∧J (k+1) Pi W'∧iy Pi W1 W'∧W1.heap.size≤W'.heap.size)∨(e= .returned (.bool false)∧Jx W')
theorem AL {a:Act} {d:Option Tmp} {v:Value}:(a.put d v).defers=a.defers:=by cases d<;>rfl
theorem zK {W:World} {Pi:aC} {st:St} {a:Act} {d:Option Tmp} {b:Bool} (hN:∀t,d=some t→t<M) (hp:∀b o,Pi b o→b<W.heap.size) (hsz:a.tmps.size=M) (hd:a.defers=[]) (f:AV→AV)
  (h:∀t av,look (st.only f).sl t=some av→∃v,a.tmps[t]? =some v∧(av= .dead∨∃p,av= .pv p∧Rp W Pi p v)):Good W.heap.size W Pi M jl ((st.only f).put d (.pv (.lit (.bool b)))) (a.put d (.bool b)) W:=by
 cases d with
 |none=>exact xN hp hsz hd rfl rfl rfl h
 |some t=>
  have ht:=hN t rfl
  refine xN hp (by simp [Act.put,hsz]) (by rw [AL];exact hd) rfl rfl (by simp [St.put,St.only,bH]) fun u av hu=> ?_
  rw [jI] at hu
  rw [cr (by rw [hsz];exact ht)]
  by_cases e:u=t
  · rw [if_pos e] at hu ⊢
    simp only [Option.map_some,Option.some.injEq] at hu
    refine ⟨_,rfl, ?_⟩
    rw [←hu]
    simp only [bu]
    exact .inr ⟨_,rfl, .lit rfl⟩
  · rw [if_neg e] at hu ⊢
    cases hq:look (st.only f).sl u with
    |none=>rw [hq] at hu;simp at hu
    |some y=>
     rw [hq] at hu
     simp only [Option.map_some,Option.some.injEq] at hu
     obtain ⟨v,hv,h2⟩:=h u y hq
     refine ⟨v,hv, ?_⟩
     split at hu
     · exact .inl hu.symm
     · rw [←hu];exact h2
theorem pE (hC:aI P call) (Y:YP P n l N xs J Jx) {ops:Array Oper} {Q:Exit→Act→World→Prop} {K:St→Option Nat→Prop} (hQ:∀st k a W,K st k→YG J Jx M k st a W→Q .normal a W):
  ∀(r:List Oper) (st:St) (k:Option Nat) (a:Act) (W:World),(∀o∈r,∀d,o.dst=some d→d<M)→YG J Jx M k st a W→uy P call l xs N ops.toList r st k K→wpListIn Fence.wide n P ops Q r a W
 |[],st,k,a,W,hN,G,h=>hQ st k a W h G
 |o::r,st,k,a,W,hN,G,h=>by
  have JK:∀o∈r,∀d,o.dst=some d→d<M:=fun o' ho'=>hN o' (List.mem_cons_of_mem _ ho')
  simp only [uy] at h
  refine wpListIn_step fun K2 hK=> ?_
  obtain ⟨ZP,w00,ZX,G0⟩:=G.any
  obtain ⟨Z4,Z5,I,Z7⟩:=G0
  split at h
  · rename_i hw
    rw [if_pos (lN (ops:=ops) I hw)]
    split at h
    ·
     rename_i j0 gm has
     split at h
     · rename_i i
       obtain ⟨hjl,hi,hxs,ht,hf⟩:=h
       unfold yG at has
       split at has
       · rename_i g args ts ho
         split at has
         · rename_i j fi ca Fh
           · split at has
             · simp at has
             · rename_i hlo
               simp only [Option.map_eq_some_iff,Prod.mk.injEq] at has
               obtain ⟨as',has,hj0,rfl⟩:=has
               rw [hj0,hjl] at Fh
               obtain ⟨A,Pi,hJ,hg,hex,lS,zo,I1,fG,Wj,ZZ,_,ZY,oO⟩:=G
               have MP:a.defers=[]:=oO [] rfl
               have tj:=eO I1 Fh
               have hsc:fi= #[]∧a.eval g= .func (.yield l) fi ca:=by
                cases hge:a.eval g<;>rw [hge] at tj<;>cases tj
                rename_i hs
                simp only [ir,Bool.and_eq_true,Array.isEmpty_iff] at hs
                exact ⟨hs.1,rfl⟩
               have hargs:=j4 I1 (by simpa using hlo) has
               rw [hxs] at hargs
               have Pt:=vH (Y.plain i hi) hargs
               have VI:=Y.grow i Pi A W hJ hg
               have hy:=Y.round i _ W VI hi
               have Rn:args.map a.eval=((xs i).map lJ).toArray:=by
                rw [←Pt];exact Array.ext' (by simp)
               rw [←Rn] at hy
               refine DW ho hsc.2 hsc.1 hy ?_
               rintro e W' (⟨rfl,VJ,hkeep,hsize⟩|⟨rfl,VK⟩)
               · refine ⟨_,rfl,hK _ _ (pE hC Y hQ r _ _ _ W' JK ?_ ht)⟩
                 have Dz:∀b o,Pi.plus A W b o→∃v,W.cell? ⟨b,o,none⟩=some v:=fun b o h=>by
                  rcases h with h|⟨_,v,h⟩
                  · obtain ⟨v,hv⟩:=hex b o h
                    exact ⟨v,(fG.cell (p:=⟨b,o,none⟩) (sA hv)).trans hv⟩
                  · exact ⟨v,h⟩
                 have wZ:Carry W lS W' (Pi.plus A W):=fun b o v h1 h2=>by
                  have Qf:Pi.plus A W b o:=by
                   by_cases hlt:b<A.heap.size
                   · exact .inl (Wj b o hlt h1)
                   · exact .inr ⟨by omega,v,h2⟩
                  exact ⟨Qf,hkeep b o v Qf h2⟩
                 refine ⟨W',_,VJ,⟨rfl,rfl,rfl,Nat.le_refl _,fun _ _ _=>rfl⟩,fun b o h=> ?_, ?_⟩
                 · obtain ⟨v,hv⟩:=Dz b o h
                   exact ⟨v,hkeep b o v h hv⟩
                 · refine zK (hN o (by simp)) (fun b o h=> ?_) I1.size MP JF fun t av kz=> ?_
                   · obtain ⟨v,hv⟩:=Dz b o h
                     exact Nat.lt_of_lt_of_le (sA hv) hsize
                   · rw [yb] at kz
                     cases hq:look st.sl t with
                     |none=>rw [hq] at kz;simp at kz
                     |some y=>
                      rw [hq] at kz
                      simp only [Option.map_some,Option.some.injEq] at kz
                      obtain ⟨v,hv,h2⟩:=I1.slots t y hq
                      refine ⟨v,hv, ?_⟩
                      cases y with
                      |pv p=>exact .inr ⟨p,kz.symm,Rp.carry wZ h2⟩
                      |_=>exact .inl kz.symm
               · refine ⟨_,rfl,hK _ _ (pE hC Y hQ r _ _ _ W' JK ?_ hf)⟩
                 refine ⟨W',fun _ _=>False,VK,⟨rfl,rfl,rfl,Nat.le_refl _,fun _ _ _=>rfl⟩, ?_⟩
                 refine zK (hN o (by simp)) (fun b o h=>h.elim) I1.size MP Dv fun t av kz=> ?_
                 rw [yb] at kz
                 cases hq:look st.sl t with
                 |none=>rw [hq] at kz;simp at kz
                 |some y=>
                  rw [hq] at kz
                  simp only [Option.map_some,Option.some.injEq] at kz
                  obtain ⟨v,hv,h2⟩:=I1.slots t y hq
                  refine ⟨v,hv, ?_⟩
                  cases y with
                  |pv p=>
                   simp only [Dv] at kz
                   split at kz
                   · rename_i oR
                     refine .inr ⟨p,kz.symm, ?_⟩
                     rw [yf oR h2]
                     exact yg oR
                   · exact .inl kz.symm
                  |_=>exact .inl kz.symm
         · simp at has
       · simp at has
     · exact h.elim
    ·
     split at h
     · rename_i s hs
       have MZ:∀a' W',YG J Jx M k s a' W'→K2 a' W':=fun a' W' G'=>hK a' W' (pE hC Y hQ r s k a' W' JK G' h)
       cases k with
       |some i=>
        obtain ⟨A,Pi,h1,h2,h3,lS,zo,I1,g9⟩:=G
        exact mE jO (jZ hs) (Good.step g9 (fun _ _=>rfl) (uH hC I1 (hN o (by simp)) hs) fun a' W' G'=>MZ a' W' ⟨A,Pi,h1,gV h2 (Good.below G'),h3,G'⟩)
       |none=>
        obtain ⟨A,Pi,h1,h2,lS,zo,I1,g9⟩:=G
        exact mE jO (jZ hs) (Good.step g9 (fun _ _=>rfl) (uH hC I1 (hN o (by simp)) hs) fun a' W' G'=>MZ a' W' ⟨A,Pi,h1,gV h2 (Good.below G'),G'⟩)
     · exact h.elim
  · rename_i hw
    rw [if_neg (by rw [lN (ops:=ops) I hw];simp)]
    refine ⟨fun f _=>trivial,hK _ _ (pE hC Y hQ r _ k _ W JK ?_ h)⟩
    have skip:∀base w0 aN,Good base w0 aN M jl st a W→Good base w0 aN M jl (st.put o.dst fN) (a.put o.dst undef) W:=fun base w0 aN ⟨lS,zo,I1,g9⟩=>by
     obtain ⟨aQ,I',hbk⟩:=xw I1 (hN o (by simp))
     exact ⟨lS,aQ,I',g9.1,g9.2.1,g9.2.2.1,fun k b e=>by simp [jl] at e,g9.2.2.2.2.1,fun ds e=>by rw [AL];exact g9.2.2.2.2.2 ds e⟩
    cases k with
    |some i=>obtain ⟨A,Pi,h1,h2,h3,h4⟩:=G;exact ⟨A,Pi,h1,h2,h3,skip _ _ _ h4⟩
    |none=>obtain ⟨A,Pi,h1,h2,h4⟩:=G;exact ⟨A,Pi,h1,h2,skip _ _ _ h4⟩
  · exact h.elim
end
end Go.Proofs.YtibbgjafjhcemaaDoor.Cul
namespace Go.Proofs.YtibbgjafjhcemaaDoor.Cul
open Go Go.RowKit
section
variable {P:Program} {call:Cl} {note:Nat→fD} {yr:Nat→Bool} {l:Nat} {xs:Nat→List PV} {N fuel:Nat} {n:Nat} {M:Nat} {J:Nat→aC→World→Prop} {Jx:World→Prop}
theorem wH {c:Code} {f:St→Option Nat→YT} {Q:Xt→St→Option Nat→Prop} {R:Exit→Act→World→Prop}
  (hf:∀st k Q a W (R:Exit→Act→World→Prop),f st k Q→YG J Jx M k st a W→(∀x s k' a' W',Q x s k'→YG J Jx M k' s a' W'→R (toExit x) a' W')→c.wpIn Fence.wide n P R a W)
  (hR:∀x s k' a' W',Q x s k'→YG J Jx M k' s a' W'→R (toExit x) a' W'):
  ∀(m:Nat) (st:St) (k:Option Nat) (a:Act) (W:World),y8 f Q m st k→YG J Jx M k st a W→Code.roundsIn Fence.wide n P c R m a W
 |0,st,k,a,W,h,G=>h.elim
 |m+1,st,k,a,W,h,G=>by
  simp only [y8] at h
  rw [roundsIn_succ]
  refine hf st k _ a W _ h G fun x s k' a' W' hq G'=> ?_
  cases x with
  |normal=>exact wH hf hR m s k' a' W' hq G'
  |exit id=>exact hR _ s k' a' W' hq G'
  |ret=>exact hR _ s k' a' W' hq G'
theorem YG.val {k:Option Nat} {st:St} {a:Act} {W:World} (G:YG J Jx M k st a W) {x:Operand} {v:Value} (h:st.val x=some v):a.eval x=v:=by
 obtain ⟨_,_,_,G⟩:=G.any
 exact G.val h
theorem nK (hC:aI P call) (hm:P.follows .mixedOrders=true) (Y:YP P n l N xs J Jx):∀(c:Code),bR M c=true→∀(st:St) (k:Option Nat) (Q:Xt→St→Option Nat→Prop) (a:Act) (W:World) (R:Exit→Act→World→Prop),
  lX P call note yr l xs N fuel c st k Q→YG J Jx M k st a W→(∀x s k' a' W',Q x s k'→YG J Jx M k' s a' W'→R (toExit x) a' W')→c.wpIn Fence.wide n P R a W
 | .skip,_,st,k,Q,a,W,R,h,G,hR=>wpIn_skip (hR .normal st k a W h G)
 | .region id ops dr,hok,st,k,Q,a,W,R,h,G,hR=>by
   have Gs:YG J Jx M k ((note id).still.foldl St.pN st) a W:=G.less fun _ _ _ g=>Good.v9 _ g
   simp only [lX] at h
   split at h
   · obtain ⟨rfl,h⟩:=h
     simp only [bR,mb,Bool.and_eq_true] at hok
     refine wpIn_region_list (pE hC Y (fun s k' a' W' hq G'=>hR .normal _ k' a' W' hq (G'.less fun _ _ _ g=>g.bK _)) ops.toList _ k a W (fun o ho d hd=> ?_) Gs h)
     have:=List.all_eq_true.1 hok.1 o ho
     rw [hd] at this;simpa using this
   · split at h
     · rename_i s hs
       exact Gs.step (x:= .normal) (fun A Pi g R VP=>ym jO n hC hm hok (fun _ _ _ _=>rfl) g hs VP) fun a' W' G'=>hR .normal _ k a' W' h (G'.less fun _ _ _ g=>g.bK _)
     · exact h.elim
 | .seq p q,hok,st,k,Q,a,W,R,h,G,hR=>by
   simp only [bR,Bool.and_eq_true] at hok
   simp only [lX] at h
   refine wpIn_seq (nK hC hm Y p hok.1 st k _ a W _ h G fun x s k' a' W' hq G'=> ?_)
   cases x with
   |normal=>exact nK hC hm Y q hok.2 s k' Q a' W' R hq G' hR
   |exit id=>exact hR _ s k' a' W' hq G'
   |ret=>exact hR _ s k' a' W' hq G'
 | .cond c t e,hok,st,k,Q,a,W,R,h,G,hR=>by
   simp only [bR,Bool.and_eq_true] at hok
   simp only [lX] at h
   split at h
   · rename_i hv
     exact wpIn_cond_true (G.val hv) (nK hC hm Y t hok.1 st k Q a W R h G hR)
   · rename_i hv
     exact wpIn_cond_false (G.val hv) (nK hC hm Y e hok.2 st k Q a W R h G hR)
   · exact h.elim
 | .block id c,hok,st,k,Q,a,W,R,h,G,hR=>by
   simp only [bR] at hok
   simp only [lX] at h
   refine wpIn_block (nK hC hm Y c hok st k _ a W _ h G fun x s k' a' W' hq G'=> ?_)
   cases x with
   |normal=>exact hR .normal s k' a' W' hq G'
   |exit j=>
    simp only [toExit,Exit.inBlock]
    simp only at hq
    split at hq
    · rename_i hj;rw [if_pos hj];exact hR .normal s k' a' W' hq G'
    · rename_i hj;rw [if_neg hj];exact hR (.exit j) s k' a' W' hq G'
   |ret=>exact hR .ret s k' a' W' hq G'
 | .loop c,hok,st,k,Q,a,W,R,h,G,hR=>by
   simp only [bR] at hok
   simp only [lX] at h
   exact wpIn_loop_rounds fuel (wH (f:=lX P call note yr l xs N fuel c) (fun st k Q a W R h G hR=>nK hC hm Y c hok st k Q a W R h G hR) hR fuel st k a W h G)
 | .rangeFunc ..,_,st,k,Q,a,W,R,h,G,hR=>h.elim
 | .exit id,_,st,k,Q,a,W,R,h,G,hR=>wpIn_exit (hR (.exit id) st k a W h G)
 | .ret,_,st,k,Q,a,W,R,h,G,hR=>wpIn_ret (hR .ret st k a W h G)
 | .label _,hok,_,_,_,_,_,_,_,_,_=>by simp [bR] at hok
 | .goto _,hok,_,_,_,_,_,_,_,_,_=>by simp [bR] at hok
end
def Jy (N:Nat):Xt→St→Option Nat→Prop
 | .exit _,_,_=>False
 |_,_,k=>k=none∨k=some N
def yv (l:Nat):PV:= .lit (.func (.yield l) #[] #[])
theorem By {P:Program} {call:Cl} (hC:aI P call) (hm:P.follows .mixedOrders=true) {f:Nat} {fn:Func} {c:Code} (hf:P.funcs[f]? =some fn) (hb:fn.body=some c) (hok:bR fn.ntmps c=true) (hnm:(fn.name== "runtime.NumGoroutine")=false) (hres:fn.results= #[])
  {note:Nat→fD} {yr:Nat→Bool} {fuel k:Nat} {caps:List PV} {xs:List (List PV)} (hlen:∀x∈xs,x.length=k∧x.all jw=true)
  (h:∀l,lX P call note yr l (fun i=>xs.getD i []) xs.length fuel c (.enter (yv l::caps)) (some 0) (Jy xs.length)):
  oD P f∧∀(vs:List Value) (w:World) (Pr:aC),(∀b o,Pr b o→b<w.heap.size)→aO w Pr caps vs→
  ∃enc:Nat→List Value,(∀i x,xs[i]? =some x→(enc i).length=k∧∀W aD,aO W aD x (enc i))∧∀n,1≤n→C4 P n f vs.toArray (fun i=>(enc i).toArray) xs.length Pr w:=by
 refine ⟨⟨fn,c,hf,hb,hnm⟩,fun vs w Pr hp hr=>⟨fun i=>(xs.getD i []).map lJ,fun i x hx=> ?_,fun n hn l J Jx W iL hgrow Fi Nm h0=> ?_⟩⟩
 · have hm:=List.mem_of_getElem? hx
   have hg:xs.getD i []=x:=by rw [List.getD_eq_getElem?_getD,hx];rfl
   simp only [hg]
   exact ⟨by rw [List.length_map];exact (hlen x hm).1,fun W aD=>vI (hlen x hm).2⟩
 · have Y:YP P n l xs.length (fun i=>xs.getD i []) J Jx:=⟨hgrow,Fi,fun i hi=>(hlen _ (by
     rw [List.getD_eq_getElem?_getD,List.getElem?_eq_getElem hi];exact List.getElem_mem hi)).2,fun i Pi W1 hJ hi=>Nm i Pi W1 hJ hi⟩
   refine callsIn_of_wp hf hb trivial ?_ rfl
   have wZ:Carry w Pr W (Pr.here w):=fun b o v h1 h2=>⟨⟨h1,v,h2⟩,(iL.cell (p:=⟨b,o,none⟩) (hp b o h1)).trans h2⟩
   have hrl:aO W (Pr.here w) (yv l::caps) ((.func (.yield l) #[] #[])::vs):= .cons (.lit rfl) (aO.carry wZ hr)
   have vh:∀b o,Pr.here w b o→b<W.heap.size:=fun b o h=>Nat.lt_of_lt_of_le (hp b o h.1) iL.size
   have I0:=qY vh hrl (fn.ntmps - (#[Value.func (.yield l) #[] #[]]++vs.toArray).size)
   have Dz:∀b o,Pr.here w b o→∃v,W.cell? ⟨b,o,none⟩=some v:=fun b o h=>by
    obtain ⟨v,hv⟩:=h.2
    exact ⟨v,(iL.cell (p:=⟨b,o,none⟩) (hp b o h.1)).trans hv⟩
   have Ng:bR ((Value.func (.yield l) #[] #[]::vs).length+(fn.ntmps - (#[Value.func (.yield l) #[] #[]]++vs.toArray).size)) c=true:=dh (by simp;omega) hok
   have G:YG J Jx ((Value.func (.yield l) #[] #[]::vs).length+(fn.ntmps - (#[Value.func (.yield l) #[] #[]]++vs.toArray).size)) (some 0) (.enter (yv l::caps)) { tmps:=(Value.func (.yield l) #[] #[]::vs).toArray++Array.replicate (fn.ntmps - (#[Value.func (.yield l) #[] #[]]++vs.toArray).size) undef,defers:=[]} W:=
    ⟨W,_,h0,⟨rfl,rfl,rfl,Nat.le_refl _,fun _ _ _=>rfl⟩,Dz,_,_,I0,Below.refl _ _,fun _ _ _ h=>h,KO.refl _,fun k b e=>by simp [jl] at e,fun _ _ _ h1 h2=>⟨h1,h2⟩,fun ds e=>by simpa [jl] using e⟩
   have hargs: #[Value.func (.yield l) #[] #[]]++vs.toArray=(Value.func (.yield l) #[] #[]::vs).toArray:=Array.ext' (by simp)
   rw [hargs]
   rw [hargs] at G Ng
   refine nK hC hm Y c Ng _ _ _ _ W _ (h l) G fun x s k' a' W' hq G'=> ?_
   have hd:a'.defers=[]:=by
    obtain ⟨_,_,_,_,_,_,_,_,_,_,_,hd⟩:=G'.any
    exact hd [] rfl
   have fin:(k'=none∨k'=some xs.length)→(∃v,Ending.returned (.tuple #[])= .returned v)∧((∃Pi,J xs.length Pi W')∨Jx W'):=fun hk=>by
    refine ⟨⟨_,rfl⟩, ?_⟩
    rcases hk with rfl|rfl
    · obtain ⟨A,Pi,h1,h2,_⟩:=G'
      exact .inr (Fi _ _ h1 h2)
    · obtain ⟨A,Pi,h1,h2,_⟩:=G'
      exact .inl ⟨_,hgrow _ _ _ _ h1 h2⟩
   cases x with
   |exit id=>exact hq.elim
   |normal=>exact ⟨hd,_,results_none hres _ _ _,fin hq⟩
   |ret=>exact ⟨hd,_,results_none hres _ _ _,fin hq⟩
end Go.Proofs.YtibbgjafjhcemaaDoor.Cul
namespace Go.Proofs.YtibbgjafjhcemaaDoor.Cul
open Go Go.RowKit
def ay (M:jC) (S:Cl) (k f:Nat) (args:List PV) (s:List El):Option (RV×List Prop):=
 (M.P.funcs[f]?).bind fun fn=>zf M.P S M.iter k (M.note f) fn args s
theorem ah {M:jC} (hM:qL M) {S:Cl} (hC:aI M.P S) {k f:Nat} {args:List PV} {s:List El} {r:RV} {ob:List Prop} (hp:M.ur f=none) (h:ay M S k f args s=some (r,ob)) (ho:cO ob):az M.P f args r:=by
 simp only [ay,Option.bind_eq_some_iff] at h
 obtain ⟨fn,hfn,h⟩:=h
 exact zg hC hM.kW hM.jv hfn (hM.fns f fn hfn hp) (Ev h ho)
def mq (M:jC) (S:Cl) (k f:Nat) (ms:List MA) (s:List El):Option ((MR×List PV)×List Prop):=
 (M.P.funcs[f]?).bind fun fn=>wL M.P S M.iter k (M.note f) fn ms s
theorem jJ {M:jC} (hM:qL M) {S:Cl} (hC:aI M.P S) {k f:Nat} {ms:List MA} {s:List El} {r:MR} {cs':List PV} {ob:List Prop} (hp:M.ur f=none) (h:mq M S k f ms s=some ((r,cs'),ob)) (ho:cO ob):jb M.P f ms r cs':=by
 simp only [mq,Option.bind_eq_some_iff] at h
 obtain ⟨fn,hfn,h⟩:=h
 exact As hC hM.kW hM.jv hfn (hM.fns f fn hfn hp) (Dc h ho)
def kJ:Code→List Code
 | .seq a b| .cond _ a b=>kJ a++kJ b
 | .block _ c=>kJ c
 | .loop c=>c::kJ c
 | .rangeFunc _ _ a b=>kJ a++kJ b
 |_=>[]
def An (M:jC) (f j:Nat):Code:=((kJ ((((M.P.funcs[f]?).bind (·.body))).getD .skip))[j]?).getD .skip
noncomputable def aP (M:jC) (S:Cl) (k f j:Nat) (st:St):Option (Xt×St):=cW M.P S M.iter (fun g=>bg g k) (M.note f) (An M f j) st
def aA (M:jC) (S:Cl) (k f j:Nat) (st:St) (s:List El):Option (Ow (Xt×St)):=cX M.P S M.iter k (M.note f) (An M f j) st s
theorem an {M:jC} {S:Cl} {k f j:Nat} {st:St} {s s':List El} {x:Xt×St} {ob:List Prop} (h:aA M S k f j st s=some (x,s',ob)) (ho:cO ob):aP M S k f j st=some x:=ct _ _ _ _ _ _ h ho
abbrev aW (M:jC) (S:Cl) (k f j:Nat) (st:St) (x:Xt) (s1:St):Prop:=za M.P S M.iter k (M.note f) (An M f j) st x s1
theorem bn {f:St→Option (Xt×St)} {n:Nat} {st s:St} {r:Xt×St} (h:f st=some (.normal,s)) (k:bg f n s=some r):bg f (n+1) st=some r:=by
 simp only [bg,h,Option.bind_some];exact k
theorem aV {f:St→Option (Xt×St)} {n:Nat} {st s:St} {x:Xt} (h:f st=some (x,s)) (hx:x≠ .normal):bg f (n+1) st=some (x,s):=by
 simp only [bg,h,Option.bind_some]
 cases x with
 |normal=>exact absurd rfl hx
 |_=>rfl
theorem bP {f:St→Option (Xt×St)}:∀{n m:Nat} {st:St} {r:Xt×St},n≤m→bg f n st=some r→bg f m st=some r
 |0,_,_,_,_,h=>by simp [bg] at h
 |n+1,0,_,_,hl,_=>by omega
 |n+1,m+1,st,r,hl,h=>by
  simp only [bg,Option.bind_eq_some_iff] at h ⊢
  obtain ⟨⟨y,s⟩,h1,h2⟩:=h
  refine ⟨(y,s),h1, ?_⟩
  cases y with
  |normal=>exact bP (by omega) h2
  |_=>exact h2
theorem bN {f:St→Option (Xt×St)} {S:Nat→St} {n:Nat} (h:∀i,i<n→f (S i)=some (.normal,S (i+1))) {r:Xt×St} (hr:f (S n)=some r) (hx:r.1≠ .normal):∀m,n<m→bg f m (S 0)=some r:=by
 have key:∀d i,i+d=n→bg f (d+1) (S i)=some r:=by
  intro d
  induction d with
  |zero=>intro i hi;have:i=n:=by omega
         subst this;obtain ⟨x,s⟩:=r;exact aV hr hx
  |succ d ih=>intro i hi;exact bn (h i (by omega)) (ih (i+1) (by omega))
 exact fun m hm=>bP hm (key n 0 (by omega))
def iv (x:Int):PV:= .lit (.int .i64 x)
def bv (b:Bool):PV:= .lit (.bool b)
def ak (x:Nat):PV:= .lit (.int .u32 (x:Int))
abbrev one (p:PV):RV:=⟨p,none⟩
def oC (g:Int→Int):List PV→Option RV
 |[.lit (.int .i64 x)]=>some (one (iv (g x)))
 |_=>none
def xx (g:Int→Int→Int):List PV→Option RV
 |[.lit (.int .i64 x), .lit (.int .i64 y)]=>some (one (iv (g x y)))
 |_=>none
def Kw (p:PV):List PV→Option RV
 |[]=>some (one p)
 |_=>none
theorem kR {P:Program} {f:Nat} {g:Int→Int} (h:∀x,az P f [iv x] (one (iv (g x)))):∀args r,oC g args=some r→az P f args r:=by
 intro args r e
 unfold oC at e
 split at e
 · simp only [Option.some.injEq] at e;subst e;exact h _
 · simp at e
theorem sP {P:Program} {f:Nat} {g:Int→Int→Int} (h:∀x y,az P f [iv x,iv y] (one (iv (g x y)))):∀args r,xx g args=some r→az P f args r:=by
 intro args r e
 unfold xx at e
 split at e
 · simp only [Option.some.injEq] at e;subst e;exact h _ _
 · simp at e
theorem Bc {P:Program} {f:Nat} {p:PV} (h:az P f [] (one p)):∀args r,Kw p args=some r→az P f args r:=by
 intro args r e
 unfold Kw at e
 split at e
 · simp only [Option.some.injEq] at e;subst e;exact h
 · simp at e
end Go.Proofs.YtibbgjafjhcemaaDoor.Cul
namespace Go.Proofs.YtibbgjafjhcemaaDoor.Cul
open Go Go.RowKit Go.ChangeShapes Go.WideShapes Go.ChangeAt
open Go.Proofs.YtibbgjafjhcemaaDoor
mutual
def Ds:DataW Unit→List Value
 | .lit l=>[l.value]
 | .agg ps=>E4 ps
 |_=>[]
def E4:List (DataW Unit)→List Value
 |[]=>[]
 |d::r=>Ds d++E4 r
end
theorem Ob:ownKnob Go.Proofs.Tryd.prog.godebug=none:=by kernel_rfl
def xK (cs:List Value):Obj→Obj
 | .cells _ t fz=> .cells cs.toArray t fz
 |o=>o
noncomputable def iN (os:Os) (args:Array Value):World:=
 let w:=World.holding Go.Proofs.Tryd.prog os ⟨#[], #[],[]⟩
 { w with heap:=(w.heap.modify 1 (xK (Ds Rows.laid_unicode_utf8_first))).modify 2 (xK (Ds Rows.laid_unicode_utf8_acceptRanges))}
def Pu:List (String×DataW Unit):=[("unicode/utf8.acceptRanges",Rows.laid_unicode_utf8_acceptRanges),("unicode/utf8.first",Rows.laid_unicode_utf8_first)]
theorem pV (os:Os):laidMet Go.Proofs.Tryd.prog Pu ((iN os #[]).forCall (fun _ _=>0) ⟨#[], #[],[]⟩).memory:=
 laidMet_of_run' 8 (by kernel_rfl) (by kernel_rfl)
end Go.Proofs.YtibbgjafjhcemaaDoor.Cul
namespace Go.Proofs.YtibbgjafjhcemaaDoor.Cul
open Go Go.RowKit
noncomputable abbrev P0:Program:=Go.Proofs.Tryd.prog
def T1:List (Nat×List (Nat×fD)):=[
(2,[(0,{ keep:=[]})]),
(3,[(0,{ keep:=[0,1]}),(1,{ keep:=[0,1,7]}),(2,{ keep:=[4]}),(3,{ keep:=[0,1,5]}),(4,{ keep:=[4]})]),
(4,[(0,{ keep:=[3,4,5]}),(1,{ keep:=[3,4,5,26]}),(2,{ keep:=[6]}),(3,{ keep:=[3,4,5,7,8]}),(4,{ keep:=[3,5,7,8,9,10]}),(5,{ keep:=[3,5,7,8,9,10,11,12]}),(6,{ keep:=[3,7,8,9,10,11,12,13,14]}),(7,{ keep:=[6]})]),
(5,[(0,{ keep:=[3,4,5]}),(1,{ keep:=[3,4,5,26]}),(2,{ keep:=[6]}),(3,{ keep:=[4,5,36]}),(4,{ keep:=[6]}),(5,{ keep:=[4,5,7,8]}),(6,{ keep:=[4,5,8,9,10]}),(7,{ keep:=[4,5,8,9,10,11,12]}),(8,{ keep:=[4,5,8,9,10,12,13,14]}),(9,{ keep:=[6]})]),
(6,[(0,{ keep:=[0,1,5]}),(1,{ keep:=[0,1,5,38]}),(2,{ keep:=[6]}),(3,{ keep:=[0,1,5,7,8]}),(4,{ keep:=[0,1,5,7,8,9,10]}),(5,{ keep:=[0,1,5,7,8,9,10,11,12]}),(6,{ keep:=[0,1,5,7,8,9,10,11,12,13,14]}),(7,{ keep:=[1,5,97]}),(8,{ keep:=[6]}),(9,{ keep:=[1,5,15]}),(10,{ keep:=[1,5,15,99,100,101]}),(11,{ keep:=[1,5,15,99,100,101,102]}),(12,{ keep:=[1,5,15,17,99,100,101]}),(13,{ keep:=[1,5,15,99,100,101]}),(14,{ keep:=[1,5,15,99,100,101]}),(15,{ keep:=[1,5,18,19]}),(16,{ keep:=[6]})]),
(7,[(0,{ keep:=[2,3]}),(1,{ keep:=[2,3,19]}),(2,{ keep:=[4]}),(3,{ keep:=[2,3,5,6]}),(4,{ keep:=[3,5,6,7,8]}),(5,{ keep:=[5,6,8,9,10]}),(6,{ keep:=[5,6,9,10,45]}),(7,{ keep:=[4]}),(8,{ keep:=[9,10,11,12]}),(9,{ keep:=[4]})]),
(8,[(0,{ keep:=[]}),(1,{ keep:=[1,2]}),(2,{ keep:=[0]})]),
(9,[(0,{ keep:=[0,1]}),(1,{ keep:=[4]})]),
(10,[(0,{ keep:=[0,1]}),(1,{ keep:=[4]})]),
(11,[(0,{ keep:=[0,1]}),(1,{ keep:=[4]})]),
(12,[(0,{ keep:=[0,1]}),(1,{ keep:=[4]})]),
(13,[(0,{ keep:=[0]}),(1,{ keep:=[2]})]),
(14,[(0,{ keep:=[1,2]}),(1,{ keep:=[4]})]),
(15,[(0,{ keep:=[1,2]}),(1,{ keep:=[4]})]),
(16,[(0,{ keep:=[1,2]}),(1,{ keep:=[1,2,6]}),(2,{ keep:=[2,3]}),(3,{ keep:=[2,3]})]),
(17,[(0,{ keep:=[1,2]}),(1,{ keep:=[1,2,6]}),(2,{ keep:=[2,3]}),(3,{ keep:=[2,3]})]),
(18,[(0,{ keep:=[1,2]}),(1,{ keep:=[1,2,6]}),(2,{ keep:=[2,3]}),(3,{ keep:=[2,3]})]),
(19,[(0,{ keep:=[1,2]}),(1,{ keep:=[1,2,6]}),(2,{ keep:=[2,3]}),(3,{ keep:=[2,3]})]),
(20,[(0,{ keep:=[1,2]}),(1,{ keep:=[1,2,5]}),(2,{ keep:=[2]}),(3,{ keep:=[2]})]),
(21,[(0,{ keep:=[1,2]}),(1,{ keep:=[1,2,5]}),(2,{ keep:=[2]}),(3,{ keep:=[2]})]),
(22,[(0,{ keep:=[1]}),(1,{ keep:=[2]})]),
(23,[(0,{ keep:=[0,1,11]}),(1,{ keep:=[0,1,11,14]}),(2,{ keep:=[4,5,11]}),(3,{ keep:=[0,1,6,11]}),(4,{ keep:=[1,6,11,15,16,17]}),(5,{ keep:=[1,6,11,15,16,17,18]}),(6,{ keep:=[1,6,8,11,15,16,17]}),(7,{ keep:=[1,6,8,9,10,11,15,16,17]}),(8,{ keep:=[1,6,8,9,10,11,15,16,17,27]}),(9,{ keep:=[4,5,11]}),(10,{ keep:=[1,6,8,9,11,15,16,17,31]}),(11,{ keep:=[1,6,9,11,15,16,17]}),(12,{ keep:=[1,6,11,15,16,17]}),(13,{ keep:=[1,6,11,15,16,17]}),(14,{ keep:=[6,11]}),(15,{ keep:=[6,11]}),(16,{ keep:=[4,5,11]})]),
(24,[(0,{ keep:=[0,1]}),(1,{ keep:=[0,1,13]}),(2,{ keep:=[4,5]}),(3,{ keep:=[0,1,6,7]}),(4,{ keep:=[0,1,6,7,8]}),(5,{ keep:=[0,1,6,7,8,17]}),(6,{ keep:=[0,1,6,7,8]}),(7,{ keep:=[0,1,6,7,8,9,10]}),(8,{ keep:=[0,1,6,7,8,9,10,29]}),(9,{ keep:=[4,5]}),(10,{ keep:=[0,1,6,7,8,9,33]}),(11,{ keep:=[0,1,6,7,8,9]}),(12,{ keep:=[0,1,6,7,8,9,47]}),(13,{ keep:=[0,1,6,7,8]}),(14,{ keep:=[0,1,6,7,8]}),(15,{ keep:=[4,5]})]),
(25,[(0,{ keep:=[0,1]}),(1,{ keep:=[0,1,17]}),(2,{ keep:=[4,5]}),(3,{ keep:=[0,1,6]}),(4,{ keep:=[0,1,6,26,27]}),(5,{ keep:=[0,1,6,26,27,28]}),(6,{ keep:=[0,1,6,7,26,27]}),(7,{ keep:=[0,1,6,26,27,40]}),(8,{ keep:=[4,5]}),(9,{ keep:=[0,1,6,26,27]}),(10,{ keep:=[4,5]})]),
(26,[(0,{ keep:=[0,1]}),(1,{ keep:=[0,1,17]}),(2,{ keep:=[4,5]}),(3,{ keep:=[0,1,6]}),(4,{ keep:=[0,1,6,7]}),(5,{ keep:=[0,1,6,7,28]}),(6,{ keep:=[0,1,6,7]}),(7,{ keep:=[0,1,6,7,41]}),(8,{ keep:=[4,5]}),(9,{ keep:=[4,5]})]),
(27,[(0,{ keep:=[0,1]}),(1,{ keep:=[0,1,10]}),(2,{ keep:=[4]}),(3,{ keep:=[0,1,5]}),(4,{ keep:=[0,1,5,14]}),(5,{ keep:=[0,1,5]}),(6,{ keep:=[0,1,5,25]}),(7,{ keep:=[4]}),(8,{ keep:=[4]})]),
(28,[(0,{ keep:=[2,3,4]}),(1,{ keep:=[2,3,4,8]}),(2,{ keep:=[4,5]}),(3,{ keep:=[2,3,4,13]}),(4,{ keep:=[4,5]}),(5,{ keep:=[2,3,4,6]}),(6,{ keep:=[3,4,7]}),(7,{ keep:=[4,5]})]),
(29,[(0,{ keep:=[0,1,2,6]}),(1,{ keep:=[6]})]),
(30,[(0,{ keep:=[0]}),(1,{ keep:=[0]}),(2,{ keep:=[0,6]}),(3,{ keep:=[0]}),(4,{ keep:=[2]})]),
(31,[(0,{ keep:=[1,2]}),(1,{ keep:=[1,2,5]}),(2,{ keep:=[1,2,5,7]}),(3,{ keep:=[1,2,5]}),(4,{ keep:=[1,2,5,17]}),(5,{ keep:=[4]}),(6,{ keep:=[4]})]),
(32,[(0,{ keep:=[1]}),(1,{ keep:=[2]})]),
(33,[(0,{ keep:=[1]}),(1,{ keep:=[2]})]),
(34,[(0,{ keep:=[1]}),(1,{ keep:=[1,32]}),(2,{ keep:=[2]}),(3,{ keep:=[2]})]),
(35,[(0,{ keep:=[1]}),(1,{ keep:=[2]})]),
(36,[(0,{ keep:=[1,2,8]}),(1,{ keep:=[2,6,8]}),(2,{ keep:=[2,4,8]}),(3,{ keep:=[2,8,11]}),(4,{ keep:=[2]}),(5,{ keep:=[2]})]),
(37,[(0,{ keep:=[1,2]}),(1,{ keep:=[1,2,6]}),(2,{ keep:=[2]}),(3,{ keep:=[1,2,8]}),(4,{ keep:=[1,2,8,9]}),(5,{ keep:=[1,2,3,8]}),(6,{ keep:=[1,2,8]}),(7,{ keep:=[1,2,8]}),(8,{ keep:=[2]})]),
(38,[(0,{ keep:=[1,2]}),(1,{ keep:=[1,2,7]}),(2,{ keep:=[2]}),(3,{ keep:=[1,2,3]}),(4,{ keep:=[1,2,3,4]}),(5,{ keep:=[1,2,3,4,11]}),(6,{ keep:=[1,2,3,4]}),(7,{ keep:=[1,2,3,4]}),(8,{ keep:=[2]})]),
(39,[(0,{ keep:=[1]}),(1,{ keep:=[1,3,4]}),(2,{ keep:=[1,3,12]}),(3,{ keep:=[2]}),(4,{ keep:=[1,5]}),(5,{ keep:=[1,5,6]}),(6,{ keep:=[1,5,6,23]}),(7,{ keep:=[1,5,6]}),(8,{ keep:=[1,5,6,31]}),(9,{ keep:=[2]}),(10,{ keep:=[1,5,6]}),(11,{ keep:=[2]})]),
(40,[(0,{ keep:=[1]}),(1,{ keep:=[5]}),(2,{ keep:=[2]}),(3,{ keep:=[2]})]),
(41,[(0,{ keep:=[]})])]
def T5:List (Nat×List (Nat×fD)):=[
(42,[(0,{ keep:=[2,3,4]}),(1,{ keep:=[5]})]),
(43,[(0,{ keep:=[1]}),(1,{ keep:=[1,6,7]}),(2,{ keep:=[1,6,7,8]}),(3,{ keep:=[1,4,6,7]}),(4,{ keep:=[1,6,7,12]}),(5,{ keep:=[2]}),(6,{ keep:=[1,6,7]}),(7,{ keep:=[2]})]),
(44,[(0,{ keep:=[0,2]}),(1,{ keep:=[2]})]),
(45,[(0,{ keep:=[2,3,4]}),(1,{ keep:=[2,3,4,12]}),(2,{ keep:=[4]}),(3,{ keep:=[4]})]),
(46,[(0,{ keep:=[0,2]}),(1,{ keep:=[0,2]}),(2,{ keep:=[0,2,6]}),(3,{ keep:=[0,2]}),(4,{ keep:=[0,2,10]}),(5,{ keep:=[2]}),(6,{ keep:=[2]})]),
(47,[(0,{ keep:=[0,2]}),(1,{ keep:=[2]})]),
(48,[(0,{ keep:=[0,2]}),(1,{ keep:=[2]})]),
(49,[(0,{ keep:=[1]}),(1,{ keep:=[2]})]),
(50,[(0,{ keep:=[1]}),(1,{ keep:=[2]})]),
(51,[(0,{ keep:=[0,1]}),(1,{ keep:=[0,1,6]}),(2,{ keep:=[0,1]}),(3,{ keep:=[4]})]),
(52,[(0,{ keep:=[0,1]}),(1,{ keep:=[0,1,6]}),(2,{ keep:=[0,1]}),(3,{ keep:=[4]})]),
(53,[(0,{ keep:=[1]}),(1,{ keep:=[1,2]})]),
(54,[(0,{ keep:=[1,2]}),(1,{ keep:=[1,2,5]}),(2,{ keep:=[2]}),(3,{ keep:=[2]})]),
(55,[(0,{ keep:=[1,2]}),(1,{ keep:=[1,2,10]}),(2,{ keep:=[2]}),(3,{ keep:=[2]})]),
(56,[(0,{ keep:=[1,2]}),(1,{ keep:=[1,2,4]}),(2,{ keep:=[1,2,4,5]}),(3,{ keep:=[1,2,4,5,9]}),(4,{ keep:=[1,2,4,5]}),(5,{ keep:=[1,2,4,5,6]}),(6,{ keep:=[1,2,4,5,6,15]}),(7,{ keep:=[1,2,4,5,6]}),(8,{ keep:=[1,2,4,5,6,28]}),(9,{ keep:=[2,3]}),(10,{ keep:=[1,2,4,5,6,7]}),(11,{ keep:=[1,2,4,5,6,7,34]}),(12,{ keep:=[1,2,4,5,6,7]}),(13,{ keep:=[1,2,4,5,6,7]}),(14,{ keep:=[1,2,4,5,50]}),(15,{ keep:=[1,2,4,5]}),(16,{ keep:=[2,3]})]),
(57,[(0,{ keep:=[1]}),(1,{ keep:=[1,3]}),(2,{ keep:=[1,3,4]}),(3,{ keep:=[1,3,4,8]}),(4,{ keep:=[1,3,4]}),(5,{ keep:=[1,4,5,6]}),(6,{ keep:=[1,4,5,6,21]}),(7,{ keep:=[1,4,5,6]}),(8,{ keep:=[1,3,4]}),(9,{ keep:=[2]})]),
(58,[(0,{ keep:=[1]}),(1,{ keep:=[1,5]}),(2,{ keep:=[2]}),(3,{ keep:=[2]})]),
(59,[(0,{ keep:=[2,3,4]}),(1,{ keep:=[2,3,4,22]}),(2,{ keep:=[4]}),(3,{ keep:=[2,3,4,33]}),(4,{ keep:=[3,4,5]}),(5,{ keep:=[4,5,7]}),(6,{ keep:=[4,5,7,49]}),(7,{ keep:=[4,5,7]}),(8,{ keep:=[4]}),(9,{ keep:=[4,9,10]}),(10,{ keep:=[4,9,10,69]}),(11,{ keep:=[4],still:=[9,10]}),(12,{ keep:=[4,9,10,11]}),(13,{ keep:=[4,9,10,11,12]}),(14,{ keep:=[4,9,10,11,12,13],still:=[9,10]}),(15,{ keep:=[4,9,10,11,12,13,88]}),(16,{ keep:=[4,9,10,11,12,90]}),(17,{ keep:=[4,9,10,11,12]}),(18,{ keep:=[4,9,10,11,12]}),(19,{ keep:=[4,9,11,12,14]}),(20,{ keep:=[4,9,11,12,14,104]}),(21,{ keep:=[4,9,11,12,14]}),(22,{ keep:=[4,9,11,12,14]}),(23,{ keep:=[4]})]),
(60,[(0,{ keep:=[1]}),(1,{ keep:=[1,3]}),(2,{ keep:=[2]}),(3,{ keep:=[12]}),(4,{ keep:=[2]}),(5,{ keep:=[2]})]),
(61,[(0,{ keep:=[0,2]}),(1,{ keep:=[0,2,3]}),(2,{ keep:=[0,2,3,7]}),(3,{ keep:=[0,2,3]}),(4,{ keep:=[2]})]),
(62,[(0,{ keep:=[0,1,2,6]}),(1,{ keep:=[0,1,2,6,7,8]}),(2,{ keep:=[0,1,2,6,7,8,13]}),(3,{ keep:=[0,1,2,6,8]}),(4,{ keep:=[0,1,2,6,7,8]}),(5,{ keep:=[0,1,2,6,7,8]}),(6,{ keep:=[0,1,2,6]}),(7,{ keep:=[0,1,2,6,30]}),(8,{ keep:=[0,1,2,6,7,8]}),(9,{ keep:=[0,1,2,6,7,8,35]}),(10,{ keep:=[0,1,2,6,8]}),(11,{ keep:=[0,1,2,6,7,8]}),(12,{ keep:=[0,1,2,6,7,8]}),(13,{ keep:=[0,1,2,6,7,9]}),(14,{ keep:=[0,1,2,6,7,9,54]}),(15,{ keep:=[0,1,2,6]}),(16,{ keep:=[0,1,2,6]})]),
(63,[(0,{ keep:=[1]}),(1,{ keep:=[1,5]}),(2,{ keep:=[2]}),(3,{ keep:=[2]})]),
(64,[(0,{ keep:=[1]}),(1,{ keep:=[1,3]}),(2,{ keep:=[2]}),(3,{ keep:=[12]}),(4,{ keep:=[2]}),(5,{ keep:=[2]})]),
(65,[(0,{ keep:=[2,3,4]}),(1,{ keep:=[2,4,5]}),(2,{ keep:=[4,5,9,10]}),(3,{ keep:=[4,5,9,10,11]}),(4,{ keep:=[4,5,7,9,10]}),(5,{ keep:=[4,5,9,10]}),(6,{ keep:=[4,5,9,10]}),(7,{ keep:=[4]})]),
(66,[(0,{ keep:=[0,2]}),(1,{ keep:=[0,2,4]}),(2,{ keep:=[2]}),(3,{ keep:=[2]})]),
(67,[(0,{ keep:=[2,3,4]}),(1,{ keep:=[2,3,4,5]}),(2,{ keep:=[2,3,4,5,12,13]}),(3,{ keep:=[2,3,4,5,12,13,14]}),(4,{ keep:=[2,3,4,5,6,7,12,13]}),(5,{ keep:=[2,3,4,5,6,7,12,13,18,19]}),(6,{ keep:=[2,3,4,5,6,7,12,13,18,19,20]}),(7,{ keep:=[2,3,4,5,6,7,8,9,12,13,18,19]}),(8,{ keep:=[2,3,4,5,6,7,8,9,12,13,18,19,30]}),(9,{ keep:=[2,3,4,5,6,7,8,9,10,12,13,18,19]}),(10,{ keep:=[2,3,4,5,6,7,12,13,18,19]}),(11,{ keep:=[2,3,4,5,6,7,12,13,18,19]}),(12,{ keep:=[2,3,4,5,12,13]}),(13,{ keep:=[4]})]),
(68,[(0,{ keep:=[0,2]}),(1,{ keep:=[0,2,3]}),(2,{ keep:=[2,4]}),(3,{ keep:=[2]})]),
(69,[(0,{ keep:=[0,1,2,6]}),(1,{ keep:=[6]})]),
(70,[(0,{ keep:=[0,11,12]}),(1,{ keep:=[0,11,12,13]}),(2,{ keep:=[0,3,4,11,12]}),(3,{ keep:=[0,11,12,20]}),(4,{ keep:=[0,11,12]})]),
(71,[(0,{ keep:=[1]}),(1,{ keep:=[1,9]}),(2,{ keep:=[2,3]}),(3,{ keep:=[4]}),(4,{ keep:=[2,3]})]),
(72,[(0,{ keep:=[0]}),(1,{ keep:=[0,3]}),(2,{ keep:=[0,3,4]}),(3,{ keep:=[0,3,4,14]}),(4,{ keep:=[0,3,4]}),(5,{ keep:=[0,3,4,5]}),(6,{ keep:=[0,3,4]}),(7,{ keep:=[2]})]),
(73,[(0,{ keep:=[0,1,4]}),(1,{ keep:=[0,4,5]}),(2,{ keep:=[4]})]),
(74,[(0,{ keep:=[0,1]}),(1,{ keep:=[0,1,12]}),(2,{ keep:=[0,1]}),(3,{ keep:=[0,1,5]}),(4,{ keep:=[0,1,5,6]}),(5,{ keep:=[0,1,5,6,7]}),(6,{ keep:=[0,1,5,6,7,22]}),(7,{ keep:=[0,1,5,6,7]}),(8,{ keep:=[0,1,5,6,7]}),(9,{ keep:=[0,1,5,6,7,34]}),(10,{ keep:=[0,1,5,6,7]}),(11,{ keep:=[0,1,5,6,7]}),(12,{ keep:=[0,1,5,6,7]}),(13,{ keep:=[5]}),(14,{ keep:=[4]})]),
(75,[(0,{ keep:=[0]}),(1,{ keep:=[0,4]}),(2,{ keep:=[0,4,10]}),(3,{ keep:=[0,4]}),(4,{ keep:=[0,4]}),(5,{ keep:=[0,4,5]}),(6,{ keep:=[0,4,5,21]}),(7,{ keep:=[0,4,5]}),(8,{ keep:=[0,4,5,6]}),(9,{ keep:=[0,4,5,6,27]}),(10,{ keep:=[0,4,5,6]}),(11,{ keep:=[0,4,5,6]}),(12,{ keep:=[0,4,5,6,41]}),(13,{ keep:=[0,4,5,6]}),(14,{ keep:=[2,3]})]),
(76,[(0,{ keep:=[0,1]}),(1,{ keep:=[0,1,10]}),(2,{ keep:=[15]}),(3,{ keep:=[4]}),(4,{ keep:=[4]}),(5,{ keep:=[0,1,5]}),(6,{ keep:=[0,1,5,20]}),(7,{ keep:=[0,1,5]}),(8,{ keep:=[0,1,5,31]}),(9,{ keep:=[40]}),(10,{ keep:=[4]}),(11,{ keep:=[4]}),(12,{ keep:=[4]})]),
(77,[(0,{ keep:=[0,1]}),(1,{ keep:=[0,1,5]}),(2,{ keep:=[0,1,5,6]}),(3,{ keep:=[0,1,5,6,7]}),(4,{ keep:=[0,1,5,6,7,15]}),(5,{ keep:=[0,1,5,6,7]}),(6,{ keep:=[0,1,5,7,8]}),(7,{ keep:=[0,1,5,7,8,27]}),(8,{ keep:=[0,1,5,7,8]}),(9,{ keep:=[0,1,5,6,7,8]}),(10,{ keep:=[0,1,5,6,7,8,35]}),(11,{ keep:=[0,1,5,7,8]}),(12,{ keep:=[0,1,5,6,7,8]}),(13,{ keep:=[0,1,5,6,7]}),(14,{ keep:=[4]})]),
(78,[(0,{ keep:=[0,1]}),(1,{ keep:=[0,1,5]}),(2,{ keep:=[0,5,6]}),(3,{ keep:=[0,5,6,7]}),(4,{ keep:=[0,5,6,7,16]}),(5,{ keep:=[0,5,6,7]}),(6,{ keep:=[0,5,6,7]}),(7,{ keep:=[0,5,6,7]}),(8,{ keep:=[0,5,6,7]}),(9,{ keep:=[5]}),(10,{ keep:=[4]})]),
(79,[(0,{ keep:=[0,1,2,3,8]}),(1,{ keep:=[0,1,2,3,8,14]}),(2,{ keep:=[0,1,2,3,8]}),(3,{ keep:=[0,1,2,3,8,9]}),(4,{ keep:=[0,1,2,3,8,9,34]}),(5,{ keep:=[0,1,2,3,8,9]}),(6,{ keep:=[0,1,2,3,8,9]})]),
(80,[(0,{ keep:=[0,1,2,3,4,28]}),(1,{ keep:=[0,1,3,4,10]}),(2,{ keep:=[0,1,4,10,11]}),(3,{ keep:=[0,1,4,10,11,33]}),(4,{ keep:=[0,1,4,10,11,12]}),(5,{ keep:=[0,1,4,10,11,12,50]}),(6,{ keep:=[0,1,4,10,11]}),(7,{ keep:=[0,1,4,10,11]}),(8,{ keep:=[0,10,13]}),(9,{ keep:=[0,10,13,58]}),(10,{ keep:=[0,10,13]}),(11,{ keep:=[0,10,13]}),(12,{ keep:=[0,1,2,3,4,80]}),(13,{ keep:=[0,2,4,14]}),(14,{ keep:=[0,2,4,14,15]}),(15,{ keep:=[0,2,4,14,15,85]}),(16,{ keep:=[0,2,4,14,15,16]}),(17,{ keep:=[0,2,4,14,15,16,103]}),(18,{ keep:=[0,2,4,14,15]}),(19,{ keep:=[0,2,4,14,15]}),(20,{ keep:=[0,14,17]}),(21,{ keep:=[0,14,17,110]}),(22,{ keep:=[0,14,17]}),(23,{ keep:=[0,14,17]}),(24,{ keep:=[0,1,2,3,4,18]}),(25,{ keep:=[0,1,2,3,4,18,19]}),(26,{ keep:=[0,1,2,3,4,18,19]}),(27,{ keep:=[0,1,2,3,4,18,19,140]}),(28,{ keep:=[0,1,2,3,4,18,19,20]}),(29,{ keep:=[0,1,2,3,4,18,19,20,21]}),(30,{ keep:=[0,1,2,3,4,18,19,20]}),(31,{ keep:=[0,1,2,3,4,18,19,20,21]}),(32,{ keep:=[0,1,2,3,4,18,19,20,21,22]}),(33,{ keep:=[0,1,2,3,4,18,19,20,21,22,151]}),(34,{ keep:=[0,1,2,3,4,18,19,20,21,22,23]}),(35,{ keep:=[0,1,2,3,4,18,19,20,21,22,23,171]}),(36,{ keep:=[0,1,2,3,4,18,19,20,21,22]}),(37,{ keep:=[0,1,2,3,4,18,19,20,21,22]}),(38,{ keep:=[0,1,2,3,4,18,20,24]}),(39,{ keep:=[0,1,2,3,4,18,20,24,185]}),(40,{ keep:=[0,1,3,4,18,20,24]}),(41,{ keep:=[0,1,3,4,18,20,24,199]}),(42,{ keep:=[0,3,4,18,24]}),(43,{ keep:=[0,3,4,18,24,213]}),(44,{ keep:=[]})]),
(81,[(0,{ keep:=[2,3,4]}),(1,{ keep:=[2,3,4,18]}),(2,{ keep:=[4]}),(3,{ keep:=[4,5,6]}),(4,{ keep:=[4,5,6,38]}),(5,{ keep:=[4,6,8]}),(6,{ keep:=[4,5,6]}),(7,{ keep:=[4,5,6,49]}),(8,{ keep:=[4]}),(9,{ keep:=[4,9,10]}),(10,{ keep:=[4,9,10,57]}),(11,{ keep:=[4,9,10]}),(12,{ keep:=[4]})])]
def T6:List (Nat×List (Nat×fD)):=[
(82,[(0,{ keep:=[0]}),(1,{ keep:=[2]})]),
(83,[(0,{ keep:=[0,1,4]}),(1,{ keep:=[1,4,5]}),(2,{ keep:=[4]})]),
(84,[(0,{ keep:=[2,3,4]}),(1,{ keep:=[2,3,4,14]}),(2,{ keep:=[4]}),(3,{ keep:=[2,3,4,5,6]}),(4,{ keep:=[2,3,4,5,6,22]}),(5,{ keep:=[4]}),(6,{ keep:=[2,3,4,5,6,34]}),(7,{ keep:=[4]}),(8,{ keep:=[4]})]),
(85,[(0,{ keep:=[2,3,4]}),(1,{ keep:=[2,3,4,12]}),(2,{ keep:=[4]}),(3,{ keep:=[4]})]),
(86,[(0,{ keep:=[2,3,4]}),(1,{ keep:=[2,3,4,5]}),(2,{ keep:=[2,3,4,5,12]}),(3,{ keep:=[2,3,4,5]}),(4,{ keep:=[2,3,4,5,17]}),(5,{ keep:=[4]}),(6,{ keep:=[2,3,4,5,21]}),(7,{ keep:=[2,3,4,5,21,22]}),(8,{ keep:=[2,3,4,5,6,21]}),(9,{ keep:=[2,3,4,5,21]}),(10,{ keep:=[2,3,4,5,21]}),(11,{ keep:=[4]})]),
(87,[(0,{ keep:=[0,1,2,3,4,10]}),(1,{ keep:=[1,2,3,4,10,11]}),(2,{ keep:=[4,10,11,21]}),(3,{ keep:=[4,10,11,21,23]}),(4,{ keep:=[4,10,11,12,13,21]}),(5,{ keep:=[4,10,11,21]}),(6,{ keep:=[10,11],perm:=true}),(7,{ keep:=[10]})]),
(88,[(0,{ keep:=[1]}),(1,{ keep:=[1,14]}),(2,{ keep:=[2,3]}),(3,{ keep:=[1,4]}),(4,{ keep:=[1,4,5]}),(5,{ keep:=[1,4,5,19]}),(6,{ keep:=[1,4,5]}),(7,{ keep:=[1,4,5]}),(8,{ keep:=[1,4,30]}),(9,{ keep:=[2,3]}),(10,{ keep:=[4,42]}),(11,{ keep:=[2,3]}),(12,{ keep:=[2,3]})]),
(89,[(0,{ keep:=[0]}),(1,{ keep:=[0,3]}),(2,{ keep:=[0,3,4]}),(3,{ keep:=[0,3,4,12]}),(4,{ keep:=[0,3,4]}),(5,{ keep:=[0,3,4]}),(6,{ keep:=[3,40]}),(7,{ keep:=[3]}),(8,{ keep:=[2],still:=[3]})]),
(90,[(0,{ keep:=[0]}),(1,{ keep:=[0,14]}),(2,{ keep:=[0]}),(3,{ keep:=[2]})]),
(91,[(0,{ keep:=[0,2,3,4,10]}),(1,{ keep:=[0,2,4,10,11]}),(2,{ keep:=[0,2,4,10,11,20]}),(3,{ keep:=[0,2,4,10,11,23]}),(4,{ keep:=[0,2,4,10,11]}),(5,{ keep:=[0,2,4,10,11]}),(6,{ keep:=[0,2,4,10,11]}),(7,{ keep:=[0,2,4,10,11]}),(8,{ keep:=[]})]),
(92,[(0,{ keep:=[0]}),(1,{ keep:=[0,3]}),(2,{ keep:=[0,3,12,13]}),(3,{ keep:=[0,3,12,13,14]}),(4,{ keep:=[0,3,4,12,13]}),(5,{ keep:=[0,3,4,5,12,13]}),(6,{ keep:=[0,3,12,13]}),(7,{ keep:=[0,3,12,13]}),(8,{ keep:=[2],still:=[3]})]),
(93,[(0,{ keep:=[0,1]}),(1,{ keep:=[0,1,19]}),(2,{ keep:=[4,5]}),(3,{ keep:=[0,1,23]}),(4,{ keep:=[6,7]}),(5,{ keep:=[4,5]}),(6,{ keep:=[0,1,8]}),(7,{ keep:=[0,8,9]}),(8,{ keep:=[8,9,10]}),(9,{ keep:=[8,9,10,11]}),(10,{ keep:=[8,9,10,11,12]}),(11,{ keep:=[8,9,10,11,12,13]}),(12,{ keep:=[8,9,10,11,12,13,63]}),(13,{ keep:=[8,9,10,11,12,13]}),(14,{ keep:=[8,9,10,11,12,13]}),(15,{ keep:=[8,10,12,14]}),(16,{ keep:=[8,10,12,14,82,83]}),(17,{ keep:=[8,10,12,14,82,83,84]}),(18,{ keep:=[8,10,12,14,15,82,83]}),(19,{ keep:=[8,10,12,14,82,83]}),(20,{ keep:=[8,10,12,14,82,83]}),(21,{ keep:=[4,5],still:=[12,14]})]),
(94,[(0,{ keep:=[0]}),(1,{ keep:=[0,3]}),(2,{ keep:=[0,3,4]}),(3,{ keep:=[0,3,4,9]}),(4,{ keep:=[0,3,4]}),(5,{ keep:=[0,3,4]}),(6,{ keep:=[2]})]),
(95,[(0,{ keep:=[0]}),(1,{ keep:=[0,14]}),(2,{ keep:=[0]}),(3,{ keep:=[2]})]),
(96,[(0,{ keep:=[0]}),(1,{ keep:=[0,3]}),(2,{ keep:=[0,3,4]}),(3,{ keep:=[0,3,4,13]}),(4,{ keep:=[0,3,4]}),(5,{ keep:=[0,3,4],still:=[3]}),(6,{ keep:=[2],still:=[3]})]),
(97,[(0,{ keep:=[0,1]}),(1,{ keep:=[0,1,14]}),(2,{ keep:=[0,1]}),(3,{ keep:=[0,1,5]}),(4,{ keep:=[0,1,5,6]}),(5,{ keep:=[0,1,5,6,21,22,23]}),(6,{ keep:=[0,1,5,6,21,22,23,24]}),(7,{ keep:=[0,1,5,6,7,8,21,22,23]}),(8,{ keep:=[0,1,5,6,7,8,9,21,22,23]}),(9,{ keep:=[0,1,5,6,7,8,9,21,22,23,31]}),(10,{ keep:=[0,1,5,6,7,8,9,21,22,23]}),(11,{ keep:=[0,1,5,6,21,22,23]}),(12,{ keep:=[0,1,5,6,21,22,23]}),(13,{ keep:=[5]}),(14,{ keep:=[4],still:=[5]})]),
(98,[(0,{ keep:=[0,1]}),(1,{ keep:=[0,1,10]}),(2,{ keep:=[4]}),(3,{ keep:=[0,1,5]}),(4,{ keep:=[0,1,5,20]}),(5,{ keep:=[0,1,5]}),(6,{ keep:=[0,1,5,23]}),(7,{ keep:=[4]}),(8,{ keep:=[0,1,5,33]}),(9,{ keep:=[4]}),(10,{ keep:=[4]})]),
(99,[(0,{ keep:=[0,1]}),(1,{ keep:=[0,1,5]}),(2,{ keep:=[0,1,5,6]}),(3,{ keep:=[1,5,6,13,14,15]}),(4,{ keep:=[1,5,6,13,14,15,16]}),(5,{ keep:=[1,5,6,7,8,13,14,15]}),(6,{ keep:=[1,5,6,7,8,9,13,14,15]}),(7,{ keep:=[1,5,6,7,8,9,13,14,15,23]}),(8,{ keep:=[1,5,6,7,8,9,13,14,15]}),(9,{ keep:=[1,5,6,13,14,15]}),(10,{ keep:=[1,5,6,13,14,15]}),(11,{ keep:=[4],still:=[5]})]),
(100,[(0,{ keep:=[0,1]}),(1,{ keep:=[0,1,5]}),(2,{ keep:=[0,1,5,6]}),(3,{ keep:=[1,5,6,20,21,22]}),(4,{ keep:=[1,5,6,20,21,22,23]}),(5,{ keep:=[1,5,6,7,8,20,21,22]}),(6,{ keep:=[1,5,6,7,8,20,21,22,27,28,29]}),(7,{ keep:=[1,5,6,7,8,20,21,22,27,28,29,30]}),(8,{ keep:=[1,5,6,7,8,9,10,20,21,22,27,28,29]}),(9,{ keep:=[1,5,6,7,8,20,21,22,27,28,29]}),(10,{ keep:=[1,5,6,7,8,20,21,22,27,28,29]}),(11,{ keep:=[1,5,6,20,21,22]}),(12,{ keep:=[4],still:=[5]})]),
(101,[(0,{ keep:=[2,3,4]}),(1,{ keep:=[4,5]}),(2,{ keep:=[4]})]),
(102,[(0,{ keep:=[2,3,4]}),(1,{ keep:=[2,3,4,14]}),(2,{ keep:=[4]}),(3,{ keep:=[2,3,4,5]}),(4,{ keep:=[2,3,4,5,16]}),(5,{ keep:=[2,3,4,5,16,17]}),(6,{ keep:=[2,3,4,5,6,16]}),(7,{ keep:=[2,3,4,5,16]}),(8,{ keep:=[2,3,4,5,16]}),(9,{ keep:=[4]})]),
(103,[(0,{ keep:=[0,2]}),(1,{ keep:=[0,2,3]}),(2,{ keep:=[2,3,5]}),(3,{ keep:=[2,3,5,6]}),(4,{ keep:=[2,3]}),(5,{ keep:=[2,3,5,11]}),(6,{ keep:=[2,3]}),(7,{ keep:=[2,3,16]}),(8,{ keep:=[2,3]}),(9,{ keep:=[2]})]),
(104,[(0,{ keep:=[2,3,4]}),(1,{ keep:=[2,3,4,11]}),(2,{ keep:=[4,5]}),(3,{ keep:=[2,3,4,21]}),(4,{ keep:=[4,5]}),(5,{ keep:=[2,3,4,6]}),(6,{ keep:=[2,4,6,7]}),(7,{ keep:=[2,4,6,7,8]}),(8,{ keep:=[2,4,6,8,9]}),(9,{ keep:=[2,4,6,8,10]}),(10,{ keep:=[4,5]})]),
(105,[(0,{ keep:=[0,1,2,3,10]}),(1,{ keep:=[0,1,2,3,10,13]}),(2,{ keep:=[0,1,2,3,10]}),(3,{ keep:=[0,1,2,3,10]})]),
(106,[(0,{ keep:=[0,1]}),(1,{ keep:=[0,1,6]}),(2,{ keep:=[0,1,6,7]}),(3,{ keep:=[0,1,6,7,8]}),(4,{ keep:=[0,1,6,7,8,16]}),(5,{ keep:=[0,1,6,7,8]}),(6,{ keep:=[0,1,6,7,8]}),(7,{ keep:=[4,5],still:=[6]})]),
(107,[(0,{ keep:=[0]}),(1,{ keep:=[2]})]),
(108,[(0,{ keep:=[0,1]}),(1,{ keep:=[0,1,5]}),(2,{ keep:=[1,5,12,13,14]}),(3,{ keep:=[1,5,12,13,14,15]}),(4,{ keep:=[1,5,6,7,12,13,14]}),(5,{ keep:=[1,5,6,7,12,13,14]}),(6,{ keep:=[1,5,12,13,14]}),(7,{ keep:=[1,5,12,13,14]}),(8,{ keep:=[4]})]),
(109,[(0,{ keep:=[0,1]}),(1,{ keep:=[0,1,5]}),(2,{ keep:=[0,1,5,6]}),(3,{ keep:=[0,1,5,7,8]}),(4,{ keep:=[0,1,5,7,8,68]}),(5,{ keep:=[0,1,5,7,8]}),(6,{ keep:=[0,1,5,7,8]}),(7,{ keep:=[0,1,5,7,8,80]}),(8,{ keep:=[0,1,5,7,9,10]}),(9,{ keep:=[0,1,5,7,9,10,81,82,83]}),(10,{ keep:=[0,1,5,7,9,10,81,82,83,84]}),(11,{ keep:=[0,1,5,7,9,10,11,12,81,82,83]}),(12,{ keep:=[0,1,5,7,9,10,11,81,82,83]}),(13,{ keep:=[0,1,5,7,9,10,81,82,83]}),(14,{ keep:=[0,1,5,7,9,10,81,82,83]}),(15,{ keep:=[0,1,5,7,9,10,81,82,83]}),(16,{ keep:=[0,1,5,7,10]}),(17,{ keep:=[0,1,5,7,126]}),(18,{ keep:=[0,1,5,7]}),(19,{ keep:=[0,1,5,7,13]}),(20,{ keep:=[0,5,7,13,129,130,131]}),(21,{ keep:=[0,5,7,13,129,130,131,132]}),(22,{ keep:=[0,5,7,13,14,15,129,130,131]}),(23,{ keep:=[0,5,7,13,129,130,131]}),(24,{ keep:=[0,5,7,13,129,130,131]}),(25,{ keep:=[7]}),(26,{ keep:=[4]})]),
(110,[(0,{ keep:=[0,1]}),(1,{ keep:=[0,1,12]}),(2,{ keep:=[4]}),(3,{ keep:=[0,1,21]}),(4,{ keep:=[4]}),(5,{ keep:=[0,1,5,6]}),(6,{ keep:=[0,1,5,31]}),(7,{ keep:=[4]}),(8,{ keep:=[4]})]),
(111,[(0,{ keep:=[0,1,2]}),(1,{ keep:=[8]}),(2,{ keep:=[6,8]}),(3,{ keep:=[6,7]})]),
(112,[(0,{ keep:=[0,1,2]}),(1,{ keep:=[0,1,6]}),(2,{ keep:=[6,7]})]),
(113,[(0,{ keep:=[0,1,8,9]}),(1,{ keep:=[0,1,8,9]}),(2,{ keep:=[0,1,8,10]}),(3,{ keep:=[0,1,10]}),(4,{ keep:=[0,10,11]}),(5,{ keep:=[0,10,11,48]}),(6,{ keep:=[0,10,11]}),(7,{ keep:=[0,10,11]})]),
(114,[(0,{ keep:=[2,3,4,5]}),(1,{ keep:=[2,3,4,5,9]}),(2,{ keep:=[4,5,6]}),(3,{ keep:=[2,3,4,5,20]}),(4,{ keep:=[4,5,6]}),(5,{ keep:=[2,3,4,5,7,8]}),(6,{ keep:=[2,3,4,5]}),(7,{ keep:=[3,4,5,56]}),(8,{ keep:=[4,5]}),(9,{ keep:=[4,5,6],perm:=true})]),
(115,[(0,{ keep:=[1,2,4]}),(1,{ keep:=[1,2,4,6]}),(2,{ keep:=[1,2,4,6,7]}),(3,{ keep:=[1,2,4,5,6]}),(4,{ keep:=[1,2,4,5,6,12]}),(5,{ keep:=[1,2,4,6]}),(6,{ keep:=[1,2,4,6]}),(7,{ keep:=[4]})]),
(116,[(0,{ keep:=[0,1,2]}),(1,{ keep:=[0,1,2,15]}),(2,{ keep:=[0,1,2]}),(3,{ keep:=[2,8]}),(4,{ keep:=[6,7]})]),
(117,[(0,{ keep:=[0,2]}),(1,{ keep:=[0,2,4]}),(2,{ keep:=[0]}),(3,{ keep:=[0,2]}),(4,{ keep:=[0,2,8]}),(5,{ keep:=[0,2]}),(6,{ keep:=[0,2]}),(7,{ keep:=[2]})]),
(118,[(0,{ keep:=[0,1]}),(1,{ keep:=[0,1,13]}),(2,{ keep:=[0,1]}),(3,{ keep:=[4]})]),
(119,[(0,{ keep:=[0,2]}),(1,{ keep:=[0,2,4]}),(2,{ keep:=[0,2,4,9]}),(3,{ keep:=[0,2,4]}),(4,{ keep:=[0,2,4,5]}),(5,{ keep:=[0,2,4,5,16]}),(6,{ keep:=[2,3]}),(7,{ keep:=[0,2,4]}),(8,{ keep:=[2,3]})]),
(120,[(0,{ keep:=[0,1]}),(1,{ keep:=[0,1,7]}),(2,{ keep:=[0,1,12]}),(3,{ keep:=[0,1]}),(4,{ keep:=[4]})]),
(121,[(0,{ keep:=[0,1]}),(1,{ keep:=[0,1,9]}),(2,{ keep:=[0,1,5,6]}),(3,{ keep:=[0,1,6,18]}),(4,{ keep:=[0,1]}),(5,{ keep:=[4]})])]
def T7:List (Nat×List (Nat×fD)):=[
(122,[(0,{ keep:=[0,1]}),(1,{ keep:=[6]}),(2,{ keep:=[4,5]})]),
(123,[(0,{ keep:=[2,3,4]}),(1,{ keep:=[2,3,4,12]}),(2,{ keep:=[4]}),(3,{ keep:=[4]})]),
(124,[(0,{ keep:=[0,1]}),(1,{ keep:=[4]})]),
(125,[(0,{ keep:=[0]}),(1,{ keep:=[0,10]}),(2,{ keep:=[2,3]}),(3,{ keep:=[2,3]})]),
(126,[(0,{ keep:=[0,1]}),(1,{ keep:=[4]})]),
(127,[(0,{ keep:=[0]}),(1,{ keep:=[0,4]}),(2,{ keep:=[0,4,16]}),(3,{ keep:=[2,3]}),(4,{ keep:=[0,4,5]}),(5,{ keep:=[0,4,5,6]}),(6,{ keep:=[0,4,5,6,23]}),(7,{ keep:=[0,7]}),(8,{ keep:=[2,3]}),(9,{ keep:=[0,4,5,6,8]}),(10,{ keep:=[0,4,5,8,9]}),(11,{ keep:=[0,5,8,9,45]}),(12,{ keep:=[2,3]}),(13,{ keep:=[0,5,8,9,10]}),(14,{ keep:=[0,5,8,10,57]}),(15,{ keep:=[2,3]}),(16,{ keep:=[0,5,8,10,59]}),(17,{ keep:=[2,3]}),(18,{ keep:=[0,5,8,10,11]}),(19,{ keep:=[0,5,8,10,11,75]}),(20,{ keep:=[2,3]}),(21,{ keep:=[0,5,10,11,77]}),(22,{ keep:=[2,3]}),(23,{ keep:=[5,10,11,12]}),(24,{ keep:=[5,10,11,12,98]}),(25,{ keep:=[2,3]}),(26,{ keep:=[2,3]})]),
(128,[(0,{ keep:=[0,1,4]}),(1,{ keep:=[0,4,7]}),(2,{ keep:=[0,4,7,8]}),(3,{ keep:=[0,4,7,8,9]}),(4,{ keep:=[0,4,7,8,9]}),(5,{ keep:=[0,4,7,8,9,26]}),(6,{ keep:=[0,4,7,8,9,33]}),(7,{ keep:=[0,4,7,8,9,11]}),(8,{ keep:=[0,4,7,8,9,11,43]}),(9,{ keep:=[4]}),(10,{ keep:=[0,4,7,8,9]}),(11,{ keep:=[0,4,7,8,9,12]}),(12,{ keep:=[0,4,7,8,9,12,51]}),(13,{ keep:=[0,4,7,8,9,12]}),(14,{ keep:=[0,4,7,8,9,12,64]}),(15,{ keep:=[4]}),(16,{ keep:=[0,4,7,8,9,10]}),(17,{ keep:=[0,4,7,8,9,10]}),(18,{ keep:=[0,4,7,8,9,98]}),(19,{ keep:=[4]}),(20,{ keep:=[8,9,13]}),(21,{ keep:=[8,9,13,108]}),(22,{ keep:=[4]}),(23,{ keep:=[0,7,8,9,14]}),(24,{ keep:=[0,7,8,9,14,15]}),(25,{ keep:=[0,7,8,9,14,15,124]}),(26,{ keep:=[0,7,8,9,14,15]}),(27,{ keep:=[0,7,8,9,14,15,139]}),(28,{ keep:=[0,7,8,9,14,15,16]}),(29,{ keep:=[0,7,8,9,14,15,16,143]}),(30,{ keep:=[0,7,8,9,14,15,16]}),(31,{ keep:=[0,7,8,9,14,15,16,156]}),(32,{ keep:=[4]}),(33,{ keep:=[4]}),(34,{ keep:=[0,1,4,160]}),(35,{ keep:=[4]}),(36,{ keep:=[0,1,4,171]}),(37,{ keep:=[175]}),(38,{ keep:=[175,176,177]}),(39,{ keep:=[5,6,175]}),(40,{ keep:=[5,175,181]}),(41,{ keep:=[4]}),(42,{ keep:=[4]}),(43,{ keep:=[0,1,4,183]}),(44,{ keep:=[4]})]),
(129,[(0,{ keep:=[0,1]}),(1,{ keep:=[4]})]),
(130,[(0,{ keep:=[0]}),(1,{ keep:=[0,3]}),(2,{ keep:=[2]}),(3,{ keep:=[10]}),(4,{ keep:=[2]}),(5,{ keep:=[2]})]),
(131,[(0,{ keep:=[0]}),(1,{ keep:=[2]})]),
(133,[(0,{ keep:=[0,1]}),(1,{ keep:=[4]})]),
(157,[(0,{ keep:=[]})])]
def vC (f r:Nat):fD:=((look (T1++T5++T6++T7) f).bind (look · r)).getD { keep:=[]}
end Go.Proofs.YtibbgjafjhcemaaDoor.Cul
namespace Go.Proofs.YtibbgjafjhcemaaDoor.Cul
open Go Go.RowKit
def rN:Cl:={ fn:=fun _ _=>none}
theorem FZ {P:Program}:aI P rN:=⟨fun f args r h=>by simp [rN] at h,fun f ms r cs' h=>by simp [rN] at h⟩
noncomputable def uK (f:Nat):Code:=(((P0.funcs[f]?).bind (·.body))).getD .skip
def Hq (cs:List PV):List (List PV):=[[.lit (.int .i64 0), .ag (cs.take 10)],[.lit (.int .i64 1), .ag ((cs.drop 10).take 10)],[.lit (.int .i64 2), .ag ((cs.drop 20).take 10)]]
theorem PL (l:Nat) (a0 a1 a2 a3 a4 a5 a6 a7 a8 a9 b0 b1 b2 b3 b4 b5 b6 b7 b8 b9 c0 c1 c2 c3 c4 c5 c6 c7 c8 c9:PV):lX P0 rN (vC 70) (fun r=>r==3) l (fun i=>(Hq [a0,a1,a2,a3,a4,a5,a6,a7,a8,a9,b0,b1,b2,b3,b4,b5,b6,b7,b8,b9,c0,c1,c2,c3,c4,c5,c6,c7,c8,c9]).getD i []) 3 5 (uK 70) (.enter [yv l, .el [a0,a1,a2,a3,a4,a5,a6,a7,a8,a9,b0,b1,b2,b3,b4,b5,b6,b7,b8,b9,c0,c1,c2,c3,c4,c5,c6,c7,c8,c9]]) (some 0) (Jy 3)=
 (false=false∧l=l∧0<3∧[PV.lit (.int .i64 0), .ag [a0,a1,a2,a3,a4,a5,a6,a7,a8,a9]]=[PV.lit (.int .i64 0), .ag [a0,a1,a2,a3,a4,a5,a6,a7,a8,a9]]∧
  (false=false∧l=l∧0+1<3∧[PV.lit (.int .i64 1), .ag [b0,b1,b2,b3,b4,b5,b6,b7,b8,b9]]=[PV.lit (.int .i64 1), .ag [b0,b1,b2,b3,b4,b5,b6,b7,b8,b9]]∧
   (false=false∧l=l∧0+1+1<3∧[PV.lit (.int .i64 2), .ag [c0,c1,c2,c3,c4,c5,c6,c7,c8,c9]]=[PV.lit (.int .i64 2), .ag [c0,c1,c2,c3,c4,c5,c6,c7,c8,c9]]∧(some 3=none∨some 3=some 3)∧((none:Option Nat)=none∨none=some 3))∧
   ((none:Option Nat)=none∨none=some 3))∧
  ((none:Option Nat)=none∨none=some 3)):=by kernel_rfl
theorem DH {α:Type} {n:Nat} {cs:List α} (h:cs.length=n+10):∃x0 x1 x2 x3 x4 x5 x6 x7 x8 x9 r,cs=x0::x1::x2::x3::x4::x5::x6::x7::x8::x9::r∧r.length=n:=by
 match cs,h with
 |x0::x1::x2::x3::x4::x5::x6::x7::x8::x9::r,h=>exact ⟨x0,x1,x2,x3,x4,x5,x6,x7,x8,x9,r,rfl,by simpa using h⟩
theorem Px {α:Type} {cs:List α} (h:cs.length=30):∃a0 a1 a2 a3 a4 a5 a6 a7 a8 a9 b0 b1 b2 b3 b4 b5 b6 b7 b8 b9 c0 c1 c2 c3 c4 c5 c6 c7 c8 c9,cs=[a0,a1,a2,a3,a4,a5,a6,a7,a8,a9,b0,b1,b2,b3,b4,b5,b6,b7,b8,b9,c0,c1,c2,c3,c4,c5,c6,c7,c8,c9]:=by
 obtain ⟨a0,a1,a2,a3,a4,a5,a6,a7,a8,a9,r,hr,h⟩:=DH (n:=20) h
 obtain ⟨b0,b1,b2,b3,b4,b5,b6,b7,b8,b9,r2,hH,h⟩:=DH (n:=10) h
 obtain ⟨c0,c1,c2,c3,c4,c5,c6,c7,c8,c9,r3,Wu,h⟩:=DH (n:=0) h
 have h0:=List.length_eq_zero_iff.1 h
 exact ⟨a0,a1,a2,a3,a4,a5,a6,a7,a8,a9,b0,b1,b2,b3,b4,b5,b6,b7,b8,b9,c0,c1,c2,c3,c4,c5,c6,c7,c8,c9,by rw [hr,hH,Wu,h0]⟩
set_option maxRecDepth 100000 in
theorem OB (l:Nat) (cs:List PV) (h:cs.length=30):lX P0 rN (vC 70) (fun r=>r==3) l (fun i=>(Hq cs).getD i []) 3 5 (uK 70) (.enter [yv l, .el cs]) (some 0) (Jy 3):=by
 obtain ⟨a0,a1,a2,a3,a4,a5,a6,a7,a8,a9,b0,b1,b2,b3,b4,b5,b6,b7,b8,b9,c0,c1,c2,c3,c4,c5,c6,c7,c8,c9,rfl⟩:=Px h
 rw [PL]
 simp
def NC:List PV→Option (Nat×List (List PV))
 |[.el cs]=>if cs.length=30∧cs.all j9=true then some (2,Hq cs) else none
 |_=>none
def ND (f:Nat) (caps:List PV):Option (Nat×List (List PV)):=if f=70 then NC caps else none
theorem tU {cs:List PV} (h:cs.all j9=true) (n:Nat):(cs.take n).all j9=true:=List.all_eq_true.2 fun x hx=>List.all_eq_true.1 h x (List.mem_of_mem_take hx)
theorem zk {cs:List PV} (h:cs.all j9=true) (n:Nat):(cs.drop n).all j9=true:=List.all_eq_true.2 fun x hx=>List.all_eq_true.1 h x (List.mem_of_mem_drop hx)
theorem AD:P0.follows .mixedOrders=true:=by kernel_rfl
set_option maxRecDepth 100000 in
theorem NF:mJ P0 ND:=by
 intro f caps k xs h
 unfold ND at h
 split at h
 · rename_i hf
   subst hf
   unfold NC at h
   split at h
   · rename_i cs
     split at h
     · rename_i hc
       simp only [Option.some.injEq,Prod.mk.injEq] at h
       obtain ⟨rfl,rfl⟩:=h
       refine By (P:=P0) FZ AD (fn:=Go.Proofs.Tryd.f70) (c:=uK 70) (by kernel_rfl) (by kernel_rfl) (by kernel_rfl) (by kernel_rfl) (by kernel_rfl) (note:=vC 70) (yr:=fun r=>r==3) (fuel:=5) (k:=2) (caps:=[.el cs]) (xs:=Hq cs) ?_ fun l=>OB l cs hc.1
       intro x hx
       simp only [Hq,List.mem_cons,List.not_mem_nil,or_false] at hx
       rcases hx with rfl|rfl|rfl<;>simp only [List.length_cons,List.length_nil,List.all_cons,List.all_nil,jw,j9,ir,Bool.and_true,Bool.true_and,true_and]
       · exact tU hc.2 _
       · exact tU (zk hc.2 _) _
       · exact tU (zk hc.2 _) _
     · simp at h
   · simp at h
 · simp at h
end Go.Proofs.YtibbgjafjhcemaaDoor.Cul
namespace Go.Proofs.YtibbgjafjhcemaaDoor.Cul
open Go Go.RowKit
def F9:List Nat:=[79,80,105,128]
noncomputable def MD:jC:={ P:=P0,ur:=fun f=>if F9.contains f then some (fun _ _=>none) else none,note:=vC,iter:=ND}
def yS (ps:List Nat):Nat→List Func→Bool
 |_,[]=>true
 |n,fn::l=>(ps.contains n||uo fn)&&yS ps (n+1) l
theorem ye {ps:List Nat}:∀{l:List Func} {n:Nat},yS ps n l=true→∀(i:Nat) (fn:Func),l[i]? =some fn→ps.contains (n+i)=false→uo fn=true
 |[],n,_,i,fn,h,_=>by simp at h
 |f::l,n,h,i,fn,hi,hp=>by
  simp only [yS,Bool.and_eq_true,Bool.or_eq_true] at h
  cases i with
  |zero=>
   simp only [List.getElem?_cons_zero,Option.some.injEq] at hi
   subst hi
   rcases h.1 with h1|h1
   · rw [Nat.add_zero,h1] at hp;simp at hp
   · exact h1
  |succ i=>exact ye h.2 i fn (by simpa using hi) (by rw [←hp];congr 1;omega)
theorem XK:yS F9 0 P0.funcs.toList=true:=by kernel_rfl
theorem af:qL MD where
 jv:=AD
 kW:=NF
 fns f fn hf hp:=by
  have hf':P0.funcs[f]? =some fn:=hf
  refine ye XK f fn (by rw [Array.getElem?_toList];exact hf') ?_
  simp only [MD] at hp
  split at hp
  · simp at hp
  · rename_i h;simpa using h
 Kg f g hg call hC args r h:=by
  simp only [MD] at hg
  split at hg
  · simp only [Option.some.injEq] at hg;subst hg;simp at h
  · simp at hg
end Go.Proofs.YtibbgjafjhcemaaDoor.Cul
namespace Go.Proofs.YtibbgjafjhcemaaDoor.Cul
def val (b:Nat):List Nat→Nat
 |[]=>0
 |x::l=>x+b* val b l
def xH (b:Nat):Nat→Nat→List Nat
 |0,_=>[]
 |k+1,n=>if n=0 then [] else n%b::xH b k (n / b)
def dg (b n:Nat):List Nat:=xH b n n
theorem EL {b:Nat} (hb:2≤b):∀{k n:Nat},n≤k→∀m,n≤m→xH b k n=xH b m n
 |0,n,h,m,hm=>by
  have:n=0:=by omega
  subst this
  cases m<;>simp [xH]
 |k+1,n,h,m,hm=>by
  cases m with
  |zero=>have:n=0:=by omega
         subst this;simp [xH]
  |succ m=>
   simp only [xH]
   split
   · rfl
   · rename_i hn
     have:n / b<n:=Nat.div_lt_self (by omega) (by omega)
     rw [EL hb (by omega) m (by omega)]
theorem dM (b:Nat):dg b 0=[]:=rfl
theorem dz {b n:Nat} (hb:2≤b) (hn:0<n):dg b n=n%b::dg b (n / b):=by
 unfold dg
 cases n with
 |zero=>omega
 |succ k=>
  have:(k+1) / b<k+1:=Nat.div_lt_self (by omega) (by omega)
  simp only [xH,Nat.add_one_ne_zero,if_false]
  rw [EL hb (by omega) ((k+1) / b) (by omega)]
theorem bS {b:Nat} (hb:2≤b) (n:Nat):val b (dg b n)=n:=by
 induction n using Nat.strongRecOn with
 |_ n ih=>
  by_cases h:n=0
  · subst h;rfl
  · rw [dz hb (by omega),val,ih _ (Nat.div_lt_self (by omega) (by omega))]
    exact Nat.mod_add_div n b
def bf (b:Nat) (l:List Nat):Prop:=∀x∈l,x<b
theorem bW {b:Nat} (hb:2≤b) (n:Nat):bf b (dg b n):=by
 induction n using Nat.strongRecOn with
 |_ n ih=>
  by_cases h:n=0
  · subst h;simp [bf,dM]
  · rw [dz hb (by omega)]
    intro x hx
    rcases List.mem_cons.1 hx with rfl|hx
    · exact Nat.mod_lt _ (by omega)
    · exact ih _ (Nat.div_lt_self (by omega) (by omega)) x hx
theorem bf.tail {b x:Nat} {l:List Nat} (h:bf b (x::l)):bf b l:=fun y hy=>h y (List.mem_cons_of_mem _ hy)
theorem bf.head {b x:Nat} {l:List Nat} (h:bf b (x::l)):x<b:=h x List.mem_cons_self
theorem bf.app {b:Nat} {l m:List Nat} (h:bf b l) (k:bf b m):bf b (l++m):=fun x hx=>(List.mem_append.1 hx).elim (h x) (k x)
theorem bf.left {b:Nat} {l m:List Nat} (h:bf b (l++m)):bf b l:=fun x hx=>h x (List.mem_append_left _ hx)
theorem bf.right {b:Nat} {l m:List Nat} (h:bf b (l++m)):bf b m:=fun x hx=>h x (List.mem_append_right _ hx)
theorem jh {b:Nat}:∀(l m:List Nat),val b (l++m)=val b l+b^l.length* val b m
 |[],m=>by simp [val]
 |x::l,m=>by
  simp only [List.cons_append,val,jh l m,List.length_cons,Nat.pow_succ,Nat.mul_add]
  rw [←Nat.mul_assoc,Nat.mul_comm b (b^l.length),Nat.add_assoc]
theorem cY {b:Nat}:∀{l:List Nat},bf b l→val b l<b^l.length
 |[],_=>by simp [val]
 |x::l,h=>by
  have h1:=cY h.tail
  have h2:=h.head
  simp only [val,List.length_cons,Nat.pow_succ]
  have h3:b* (val b l+1)≤b* b^l.length:=Nat.mul_le_mul_left _ h1
  rw [Nat.mul_comm (b^l.length)]
  rw [Nat.mul_add] at h3
  omega
theorem val_inj {b:Nat}:∀{l m:List Nat},bf b l→bf b m→l.length=m.length→val b l=val b m→l=m
 |[],[],_,_,_,_=>rfl
 |[],_::_,_,_,h,_=>by simp at h
 |_::_,[],_,_,h,_=>by simp at h
 |x::l,y::m,h,k,e,v=>by
  simp only [val] at v
  have h1:=h.head
  have h2:=k.head
  have hx:x=y:=by
   have:=congrArg (· %b) v
   simpa [Nat.add_mul_mod_self_left,Nat.mod_eq_of_lt h1,Nat.mod_eq_of_lt h2] using this
  subst hx
  have:b* val b l=b* val b m:=by omega
  have:=Nat.eq_of_mul_eq_mul_left (by omega) this
  rw [val_inj h.tail k.tail (by simpa using e) this]
theorem gZ {b n k:Nat} (hb:2≤b) (h:n<b^k):(dg b n).length≤k:=by
 induction k generalizing n with
 |zero=>have:n=0:=by simpa using h
        subst this;simp [dM]
 |succ k ih=>
  by_cases hn:n=0
  · subst hn;simp [dM]
  · rw [dz hb (by omega),List.length_cons]
    have:n / b<b^k:=Nat.div_lt_of_lt_mul (by rw [Nat.pow_succ] at h;rw [Nat.mul_comm];exact h)
    have:=ih this
    omega
theorem cE {b n:Nat} (hb:2≤b):n<b^(dg b n).length:=by
 have:=cY (bW hb n)
 rwa [bS hb] at this
theorem nN {b n:Nat} (hb:2≤b) (hn:0<n):b^((dg b n).length - 1)≤n:=by
 induction n using Nat.strongRecOn with
 |_ n ih=>
  rw [dz hb hn,List.length_cons,Nat.add_sub_cancel]
  by_cases h:n / b=0
  · rw [h,dM];simp;omega
  · have h1:=ih _ (Nat.div_lt_self hn (by omega)) (Nat.pos_of_ne_zero h)
    have h2:0<(dg b (n / b)).length:=by
     rw [dz hb (by omega)];simp
    have:b^(dg b (n / b)).length=b^((dg b (n / b)).length - 1)* b:=by
     rw [←Nat.pow_succ];congr 1;omega
    rw [this]
    calc b^((dg b (n / b)).length - 1)* b≤(n / b)* b:=Nat.mul_le_mul_right _ h1
     _≤n:=Nat.div_mul_le_self n b
theorem wP {b x:Nat} (hb:2≤b) (hx:x<b) (n:Nat) (h:0<x∨0<n):dg b (x+b* n)=x::dg b n:=by
 have hp:0<x+b* n:=by
  rcases h with h|h
  · omega
  · have:0<b* n:=Nat.mul_pos (by omega) h
    omega
 rw [dz hb hp,Nat.add_mul_mod_self_left,Nat.mod_eq_of_lt hx,Nat.add_mul_div_left _ _ (by omega),Nat.div_eq_of_lt hx,Nat.zero_add]
theorem B5 {b:Nat} (hb:2≤b):∀{l:List Nat} {x:Nat},bf b (l++[x])→0<x→dg b (val b (l++[x]))=l++[x]
 |[],x,h,hx=>by
  have hd:=h x (by simp)
  have:=wP hb hd 0 (.inl hx)
  simpa [val,dM] using this
 |y::l,x,h,hx=>by
  have hd:y<b:=h y (by simp)
  have h1:bf b (l++[x]):=fun z hz=>h z (by simp at hz ⊢;exact .inr hz)
  have hv:0<val b (l++[x]):=by
   rw [jh]
   have:0<b^l.length* val b [x]:=Nat.mul_pos (Nat.pow_pos (by omega)) (by simp [val];exact hx)
   omega
  simp only [List.cons_append,val]
  rw [wP hb hd _ (.inr hv),B5 hb h1 hx]
theorem r7 {b:Nat} (l:List Nat):val b (l++[0])=val b l:=by simp [jh,val]
theorem yE {b:Nat}:∀n,val b (List.replicate n 0)=0
 |0=>rfl
 |n+1=>by simp [List.replicate_succ,val,yE n]
theorem Dh {b:Nat} (hb:2≤b) {l:List Nat} (h:bf b l) (hl:l=[]∨∃m x,l=m++[x]∧0<x):dg b (val b l)=l:=by
 rcases hl with rfl|⟨m,x,rfl,hx⟩
 · rfl
 · exact B5 hb h hx
theorem B3 {b n:Nat} (hb:2≤b) (hn:0<n):∃m x,dg b n=m++[x]∧0<x∧x<b:=by
 have hl:dg b n≠[]:=by rw [dz hb hn];simp
 refine ⟨(dg b n).dropLast,(dg b n).getLast hl,(List.dropLast_concat_getLast hl).symm, ?_,bW hb n _ (List.getLast_mem hl)⟩
 have h1:=nN hb hn
 have h2:=bS hb n
 rw [←List.dropLast_concat_getLast hl,jh,List.length_dropLast] at h2
 have h3:val b (dg b n).dropLast<b^((dg b n).length - 1):=by
  have:=cY (b:=b) (l:=(dg b n).dropLast) (fun x hx=>bW hb n x ((List.dropLast_sublist _).subset hx))
  simpa using this
 rcases Nat.eq_zero_or_pos ((dg b n).getLast hl) with h|h
 · simp [h,val] at h2;omega
 · exact h
end Go.Proofs.YtibbgjafjhcemaaDoor.Cul
set_option maxRecDepth 100000
namespace Go.Proofs.YtibbgjafjhcemaaDoor.Cul
open Go Go.RowKit
def us (l:List Nat):List PV:=l.map ak
def nat (l:List Nat):PV:= .sl 1 l.length (us l)
def t0:Cl:=bI []
theorem YV (k n m:Nat) (cs ds:List PV) (x:Nat):aA MD t0 k 95 0 ⟨[(0, .pv (.sl 1 n cs))],[],[],[]⟩ [.c true, .a 11 [ak x], .c true, .t 19 m ds]=
 some ((Xt.normal,St.mk [(0,AV.pv (PV.sl 1 m ds))] [] [] []),[],[decide ((↑n:Int)>(0:Int))=true,aL cs 1 (IntKind.i64.wrap ((↑n:Int) - (1:Int))) n [PV.lit (Value.int IntKind.u32 (↑x:Int))],((↑x:Int)==(0:Int))=true,(0:Int)≤(0:Int)∧(0:Int)≤IntKind.i64.wrap ((↑n:Int) - (1:Int))∧IntKind.i64.wrap ((↑n:Int) - (1:Int))≤(↑n:Int),(IntKind.i64.wrap ((↑n:Int) - (1:Int))).toNat - Int.toNat (0:Int)=m,cH cs 0 (((IntKind.i64.wrap ((↑n:Int) - (1:Int))).toNat - Int.toNat (0:Int))* (1:Nat)) ds]):=by kernel_rfl
theorem YW (k n:Nat) (cs:List PV) (x:Nat):aA MD t0 k 95 0 ⟨[(0, .pv (.sl 1 n cs))],[],[],[]⟩ [.c true, .a 11 [ak x], .c false]=
 some ((Xt.exit 0,St.mk [(0,AV.pv (PV.sl 1 n cs)),(14,AV.pv (PV.lit (Value.bool false)))] [] [] []),[],[decide ((↑n:Int)>(0:Int))=true,aL cs 1 (IntKind.i64.wrap ((↑n:Int) - (1:Int))) n [PV.lit (Value.int IntKind.u32 (↑x:Int))],((↑x:Int)==(0:Int))=false]):=by kernel_rfl
theorem YX (k n:Nat) (cs:List PV):aA MD t0 k 95 0 ⟨[(0, .pv (.sl 1 n cs))],[],[],[]⟩ [.c false]=
 some ((Xt.exit 0,St.mk [(0,AV.pv (PV.sl 1 n cs)),(14,AV.pv (PV.lit (Value.bool false)))] [] [] []),[],[decide ((↑n:Int)>(0:Int))=false]):=by kernel_rfl
theorem PK (k n m:Nat) (cs ds:List PV):ay MD t0 k 95 [.sl 1 n cs] [.l (.exit 0) ⟨[(0, .pv (.sl 1 m ds)),(14, .pv (bv false))],[],[],[]⟩]=
 some (RV.mk (PV.sl 1 m ds) none,[aW MD t0 k (95:Nat) (0:Nat) (St.mk [(0,AV.pv (PV.sl 1 n cs))] [] [] []) (Xt.exit 0) (St.mk [(0,AV.pv (PV.sl 1 m ds)),(14,AV.pv (PV.lit (Value.bool false)))] [] [] [])]):=by kernel_rfl
theorem wrap64 {n:Int} (h1: -(2^63)≤n) (h2:n<2^63):IntKind.i64.wrap n=n:=by
 unfold IntKind.wrap IntKind.bits IntKind.signed
 simp only
 have e1:(2:Int)^64=18446744073709551616:=by decide
 have e2:(2:Int)^(64 - 1)=9223372036854775808:=by decide
 rw [e1,e2]
 split
 · rename_i h;simp only [Bool.true_and,decide_eq_true_eq] at h;omega
 · rename_i h;simp only [Bool.true_and,decide_eq_true_eq] at h;omega
theorem cC (l:List Nat):(us l).length=l.length:=by simp [us]
theorem Ox {l:List Nat} {i x:Nat} (h:l[i]? =some x):row (us l) 1 i=[ak x]:=by
 have hi:i<l.length:=by
  rcases Nat.lt_or_ge i l.length with h'|h'
  · exact h'
  · simp [List.getElem?_eq_none h'] at h
 have:(us l)[i]? =some (ak x):=by simp [us,h]
 simp only [row,Nat.mul_one]
 rw [List.drop_eq_getElem_cons (by simpa [us] using hi),List.take_succ_cons,List.take_zero]
 congr 1
 simpa [List.getElem?_eq_getElem (show i<(us l).length by simpa [us] using hi)] using this
theorem cQ {l:List Nat} {i x:Nat} {n:Int} (h:l[i]? =some x) (hn:n=(i:Int)):aL (us l) 1 n l.length [ak x]:=by
 have hi:i<l.length:=by
  rcases Nat.lt_or_ge i l.length with h'|h'
  · exact h'
  · simp [List.getElem?_eq_none h'] at h
 subst hn
 exact ⟨⟨by omega,by omega⟩,by rw [Int.toNat_natCast];exact Ox h⟩
theorem je (l:List Nat) (a n:Nat) {m:List Nat} (h:(l.drop a).take n=m):cH (us l) a n (us m):=by
 show ((l.map ak).drop a).take n=m.map ak
 rw [←List.map_drop,←List.map_take,h]
theorem yC (k:Nat):∀(n:Nat) (l:List Nat),l.length=n→n<2^40→bf (4294967296:Nat) l→bg (aP MD t0 k 95 0) (n+1) ⟨[(0, .pv (nat l))],[],[],[]⟩=some (.exit 0,⟨[(0, .pv (nat (dg (4294967296:Nat) (val (4294967296:Nat) l)))),(14, .pv (bv false))],[],[],[]⟩)
 |0,l,hl,_,_=>by
  have:l=[]:=List.length_eq_zero_iff.1 hl
  subst this
  exact aV (an (YX k 0 []) ⟨rfl,trivial⟩) (by simp)
 |n+1,l,hl,hn,hd=>by
  have hne:l≠[]:=by intro h;subst h;simp at hl
  have e:=List.dropLast_concat_getLast hne
  obtain ⟨x,hx⟩:∃x,x=l.getLast hne:=⟨_,rfl⟩
  obtain ⟨m,hm⟩:∃m,m=l.dropLast:=⟨_,rfl⟩
  rw [←hx,←hm] at e
  subst e
  have hl':m.length=n:=by simpa using hl
  have hw:IntKind.i64.wrap (((m++[x]).length:Int) - 1)=(n:Int):=by
   rw [wrap64]<;>rw [hl]<;>omega
  have hg:(m++[x])[n]? =some x:=by subst hl';simp
  have hr:aL (us (m++[x])) 1 (IntKind.i64.wrap (((m++[x]).length:Int) - 1)) (m++[x]).length [ak x]:=cQ hg hw
  have h0:decide (((m++[x]).length:Int)>0)=true:=by simp
  by_cases h:x=0
  · subst h
    refine bn (an (YV k _ _ _ (us m) 0) ⟨h0,hr,rfl,⟨by omega,by omega,by omega⟩,rfl, ?_,trivial⟩) ?_
    · exact je _ _ _ (by rw [hw,←hl'];simp)
    · rw [hw]
      have:=yC k n m hl' (by omega) hd.left
      rw [r7]
      simpa [nat,hl'] using this
  · have:=aV (n:=n+1) (an (YW k (m++[x]).length (us (m++[x])) x) ⟨h0,hr,by simpa using h,trivial⟩) (by simp)
    rw [Dh (by decide) hd (.inr ⟨m,x,rfl,by omega⟩)]
    exact this
theorem mI (l:List Nat) (h:l.length<2^40) (hd:bf (4294967296:Nat) l):az P0 95 [nat l] (one (nat (dg (4294967296:Nat) (val (4294967296:Nat) l)))):=
 ah af (aH aE) (by rfl) (PK (l.length+1) _ _ _ _) ⟨yC _ l.length l rfl h hd,trivial⟩
theorem O2 {l:List Nat} {i x:Nat} (h:l[i]? =some x):(us l)[i]? =some (ak x):=by simp [us,h]
theorem gB {α:Type} {l:List α} {i:Nat} {x:α} (h:l[i]? =some x):i<l.length:=by
 rcases Nat.lt_or_ge i l.length with h'|h'
 · exact h'
 · simp [List.getElem?_eq_none h'] at h
theorem LL:bV MD.P 111=some 1:=by kernel_rfl
theorem Ot:ei MD.P 111=false:=by kernel_rfl
theorem O0:(MD.P.underlying 111).isSome=true:=by kernel_rfl
theorem mP:MD.P.bytesOf 111=4:=by kernel_rfl
theorem iB {l:List Nat} {o i x:Nat} (h:l[i]? =some x) (ho:o=i):Ld MD.P 111 (us l) o (ak x):=by
 subst ho
 have:=gB h
 show eA MD.P 111 (us l) o=some (ak x)
 simp only [eA,LL,Option.bind_some,Ot,O0]
 rw [if_pos (by rw [cC];omega)]
 simp [O2 h]
theorem eZ {l m:List Nat} {o i y:Nat} (h:l.set i y=m) (hi:i<l.length) (ho:o=i):cg (us l) o [ak y] (us m):=by
 subst ho h
 show splice (us l) o [ak y]=us (l.set o y)
 simp only [splice,us,List.map_set,List.length_singleton]
 rw [List.set_eq_take_append_cons_drop,if_pos (by simpa using hi),List.append_assoc];rfl
theorem ja {n:Nat}:fP [PV.lit (.int .u32 0)] n (us (List.replicate n 0)):=by
 show bq _ n=_
 induction n with
 |zero=>rfl
 |succ n ih=>simp only [bq,List.replicate_succ,us,List.map_cons] at ih ⊢;rw [ih];rfl
theorem aR {a:Int} {m:Nat} (h:a=(m:Int)) (hm:m<2^63):IntKind.i64.wrap a=(m:Int):=by
 subst h;rw [wrap64]<;>omega
theorem iw {a:Int} {m:Nat} (h:a=(m:Int)) (hm:m<2^32):IntKind.u32.wrap a=(m:Int):=by
 subst h
 unfold IntKind.wrap IntKind.bits IntKind.signed
 simp only
 have e1:(2:Int)^32=4294967296:=by decide
 rw [e1]
 simp only [Bool.false_and]
 rw [Int.emod_eq_of_lt (by omega) (by omega)]
 simp
theorem gX (a b:Nat):(a:Int).tdiv (b:Int)=((a / b:Nat):Int):=by
 rw [Int.tdiv_eq_ediv_of_nonneg (by omega)];rfl
theorem fl (a b:Nat):(a:Int).tmod (b:Int)=((a%b:Nat):Int):=by
 rw [Int.tmod_eq_emod_of_nonneg (by omega)];rfl
theorem F6 {x z r:Nat} (hx:x<2^r) (h:x+2^r* z<2^32) (y:Nat) (hy:y=x+2^r* z):IntKind.u32.wrap ((BitVec.ofInt IntKind.u32.bits (x:Int)|||BitVec.ofInt IntKind.u32.bits ((2^r* z:Nat):Int)).toNat:Int)=(y:Int):=by
 have hp:0<2^r:=Nat.pow_pos (by omega)
 have e:(BitVec.ofInt IntKind.u32.bits (x:Int)|||BitVec.ofInt IntKind.u32.bits ((2^r* z:Nat):Int)).toNat=y:=by
  rw [BitVec.toNat_or,BitVec.ofInt_natCast,BitVec.ofInt_natCast,BitVec.toNat_ofNat,BitVec.toNat_ofNat]
  show x%2^32|||(2^r* z)%2^32=y
  rw [Nat.mod_eq_of_lt (by omega),Nat.mod_eq_of_lt (by omega),Nat.or_comm,←Nat.two_pow_add_eq_or_of_lt hx,hy,Nat.add_comm]
 rw [e]
 exact iw rfl (by omega)
end Go.Proofs.YtibbgjafjhcemaaDoor.Cul
namespace Go.Proofs.YtibbgjafjhcemaaDoor.Cul
def aT (s:ByteArray):List Nat:=(s.data.toList.map (·.toNat)).reverse
theorem bO (s:ByteArray):(aT s).length=s.size:=by
 simp only [aT,List.length_reverse,List.length_map,Array.length_toList]
 rfl
theorem ec (s:ByteArray):bf 256 (aT s):=by
 intro x hx
 simp only [aT,List.mem_reverse,List.mem_map] at hx
 obtain ⟨y,_,rfl⟩:=hx
 exact y.toNat_lt
def bM (s:ByteArray):Nat:=val 256 (aT s)
def cellAt (c:Nat) (bs:List Nat) (i j:Nat):Nat:=val 256 ((bs.drop (c* j)).take (min c (i - c* j)))
def bE (c:Nat) (bs:List Nat) (i n:Nat):List Nat:=(List.range n).map (cellAt c bs i)
theorem dZ (c:Nat) (bs:List Nat) (i n:Nat):(bE c bs i n).length=n:=by simp [bE]
theorem qW (c:Nat) (bs:List Nat) (n:Nat):bE c bs 0 n=List.replicate n 0:=by
 apply List.ext_getElem
 · simp [bE]
 · intro j h1 h2
   simp [bE,cellAt,val]
theorem eU {b:Nat} {l:List Nat} (h:bf b l) (n:Nat):bf b (l.take n):=fun x hx=>h x (List.mem_of_mem_take hx)
theorem jE {b:Nat} {l:List Nat} (h:bf b l) (n:Nat):bf b (l.drop n):=fun x hx=>h x (List.mem_of_mem_drop hx)
theorem qU {c:Nat} {bs:List Nat} (h:bf 256 bs) (i j:Nat):cellAt c bs i j<256^min c (i - c* j):=by
 have h1:=cY (eU (jE h (c* j)) (min c (i - c* j)))
 refine Nat.lt_of_lt_of_le h1 (Nat.pow_le_pow_right (by omega) ?_)
 simp;omega
theorem EI {c:Nat} (hc:0<c) {bs:List Nat} {i j:Nat} (h:j≠i / c):cellAt c bs (i+1) j=cellAt c bs i j:=by
 unfold cellAt
 have e:min c (i+1 - c* j)=min c (i - c* j):=by
  rcases Nat.lt_or_ge j (i / c) with h1|h1
  · have h2:c* (j+1)≤i:=by
      have:=Nat.mul_le_mul_left c (show j+1≤i / c from h1)
      exact Nat.le_trans this (Nat.mul_div_le i c)
    rw [Nat.mul_add] at h2
    omega
  · have h2:i / c<j:=by omega
    have h3:i<c* j:=by
     have:=(Nat.div_lt_iff_lt_mul hc).1 h2
     rwa [Nat.mul_comm] at this
    omega
 rw [e]
theorem cy {b:Nat} {l:List Nat} {m x:Nat} (h:l[m]? =some x):val b (l.take (m+1))=val b (l.take m)+b^m* x:=by
 have hm:m<l.length:=by
  rcases Nat.lt_or_ge m l.length with h'|h'
  · exact h'
  · simp [List.getElem?_eq_none h'] at h
 rw [List.take_add_one,h,Option.toList_some,jh]
 simp [val,List.length_take,Nat.min_eq_left (Nat.le_of_lt hm)]
theorem EH {c:Nat} (hc:0<c) {bs:List Nat} {i x:Nat} (h:bs[i]? =some x):cellAt c bs (i+1) (i / c)=cellAt c bs i (i / c)+256^(i%c)* x:=by
 unfold cellAt
 have e:c* (i / c)+i%c=i:=Nat.div_add_mod i c
 have hm:i%c<c:=Nat.mod_lt _ hc
 have e1:min c (i+1 - c* (i / c))=i%c+1:=by omega
 have e2:min c (i - c* (i / c))=i%c:=by omega
 rw [e1,e2]
 apply cy
 rw [List.getElem?_drop,e,h]
theorem qV {c:Nat} (hc:0<c) {bs:List Nat} {i n x:Nat} (h:bs[i]? =some x):(bE c bs i n).set (i / c) (cellAt c bs i (i / c)+256^(i%c)* x)=bE c bs (i+1) n:=by
 apply List.ext_getElem
 · simp [bE]
 · intro j h1 h2
   simp only [bE,List.length_set,List.length_map,List.length_range] at h1
   rw [List.getElem_set]
   split
   · rename_i e
     subst e
     simp [bE,EH hc h]
   · rename_i e
     simp [bE,EI hc (fun h=>e h.symm)]
theorem oo {c:Nat} (hc:0<c):∀(n:Nat) (bs:List Nat),bs.length≤c* n→val (256^c) (bE c bs bs.length n)=val 256 bs
 |0,bs,h=>by
  have:bs=[]:=List.length_eq_zero_iff.1 (by omega)
  subst this;rfl
 |n+1,bs,h=>by
  have hd:(bs.drop c).length≤c* n:=by rw [List.length_drop];rw [Nat.mul_add] at h;omega
  have ih:=oo hc n (bs.drop c) hd
  have e:bE c bs bs.length (n+1)=val 256 (bs.take c)::bE c (bs.drop c) (bs.drop c).length n:=by
   simp only [bE,List.range_succ_eq_map,List.map_cons,List.map_map]
   congr 1
   · simp only [cellAt,Nat.mul_zero,List.drop_zero,Nat.sub_zero]
     rcases Nat.le_total c bs.length with h1|h1
     · rw [Nat.min_eq_left h1]
     · rw [Nat.min_eq_right h1,List.take_of_length_le (Nat.le_refl _),List.take_of_length_le h1]
   · apply List.map_congr_left
     intro j _
     simp only [Function.comp,cellAt,List.drop_drop,List.length_drop]
     rw [show c* j.succ=c+c* j by rw [Nat.mul_succ];omega,show bs.length - (c+c* j)=bs.length - c - c* j by omega]
  rw [e,val,ih]
  have:=jh (b:=256) (bs.take c) (bs.drop c)
  rw [List.take_append_drop] at this
  rw [this]
  rcases Nat.le_total c bs.length with h1|h1
  · rw [List.length_take,Nat.min_eq_left h1]
  · rw [List.drop_of_length_le h1];simp [val]
theorem td {c:Nat} {bs:List Nat} (h:bf 256 bs) (i n:Nat):bf (256^c) (bE c bs i n):=by
 intro x hx
 simp only [bE,List.mem_map] at hx
 obtain ⟨j,_,rfl⟩:=hx
 exact Nat.lt_of_lt_of_le (qU h i j) (Nat.pow_le_pow_right (by omega) (by omega))
theorem lY {s:ByteArray} {i:Nat} (h:i<s.size):∃x,(aT s)[i]? =some x∧(s[s.size - 1 - i]?).map (·.toNat)=some x:=by
 have h2:s.size - 1 - i<s.size:=by omega
 have hz:s.size=s.data.size:=rfl
 refine ⟨s[s.size - 1 - i].toNat, ?_, ?_⟩
 · simp only [aT]
   rw [List.getElem?_reverse (by rw [List.length_map,Array.length_toList];exact h)]
   simp only [List.length_map,Array.length_toList,List.getElem?_map]
   have:s.data.size=s.size:=rfl
   rw [this,List.getElem?_eq_getElem (by rw [Array.length_toList];exact h2)]
   rfl
 · rw [getElem?_pos s _ h2];rfl
def ai (n:Nat):ByteArray:=⟨((dg 256 n).reverse.map (fun x=>UInt8.ofNat x)).toArray⟩
theorem cV (n:Nat):aT (ai n)=dg 256 n:=by
 simp only [aT,ai,List.map_map]
 have:List.map ((fun x=>x.toNat) ∘ fun x=>UInt8.ofNat x) (dg 256 n).reverse=(dg 256 n).reverse:=by
  rw [List.map_eq_iff]
  intro i
  cases h:(dg 256 n).reverse[i]? with
  |none=>simp
  |some x=>
   have hx:x<256:=bW (by decide) n x (List.mem_reverse.1 (List.mem_of_getElem? h))
   simp only [Option.map_some,Function.comp,Option.some.injEq]
   rw [UInt8.toNat_ofNat',Nat.mod_eq_of_lt hx]
 rw [this,List.reverse_reverse]
theorem uL {s t:ByteArray} (h:aT s=aT t):s=t:=by
 have h1:s.data.toList.map (·.toNat)=t.data.toList.map (·.toNat):=by
  have:=congrArg List.reverse h
  simpa [aT] using this
 have h2:s.data.toList=t.data.toList:=by
  have key:∀(l m:List UInt8),l.map (·.toNat)=m.map (·.toNat)→l=m:=by
   intro l
   induction l with
   |nil=>intro m h;cases m<;>simp_all
   |cons a l ih=>intro m h;cases m with
    |nil=>simp at h
    |cons b m=>
     simp only [List.map_cons,List.cons.injEq] at h
     rw [ih m h.2,UInt8.toNat_inj.1 h.1]
  exact key _ _ h1
 have h3:s.data=t.data:=Array.toList_inj.1 h2
 cases s;cases t;simp_all
theorem gi (n:Nat):bM (ai n)=n:=by rw [bM,cV,bS (by decide)]
theorem FR:ai 0=⟨#[]⟩:=rfl
def C6 (s:ByteArray):Prop:=aT s=[]∨∃m x,aT s=m++[x]∧0<x
theorem lG {s:ByteArray} (h:C6 s):ai (bM s)=s:=by
 apply uL
 rw [cV,bM,Dh (by decide) (ec s) h]
theorem FJ (n:Nat):C6 (ai n):=by
 unfold C6
 rw [cV]
 rcases Nat.eq_zero_or_pos n with rfl|h
 · exact .inl rfl
 · obtain ⟨m,x,e,h1,_⟩:=B3 (b:=256) (by decide) h
   exact .inr ⟨m,x,e,h1⟩
theorem zC (s:ByteArray) (i j:Nat):(s.extract i j).data.toList=(s.data.toList.drop i).take (j - i):=by
 rw [ByteArray.data_extract]
 simp [List.take_drop,Array.toList_extract]
theorem jm {s:ByteArray} {n:Nat} (h:s.size=n+1):∃b,s[0]? =some b∧aT s=aT (s.extract 1 s.size)++[b.toNat]:=by
 have hz:s.size=s.data.toList.length:=rfl
 cases hl:s.data.toList with
 |nil=>rw [hl,h] at hz;simp at hz
 |cons c t=>
  refine ⟨c, ?_, ?_⟩
  · rw [getElem?_pos s 0 (by omega)]
    congr 1
    have h3:0<s.data.size:=by
     have:s.data.size=s.size:=rfl
     omega
    show s.data[0]'h3=c
    have:s.data.toList[0]'(by rw [hl];simp)=c:=by simp [hl]
    simpa using this
  · simp only [aT,zC,hl,List.drop_one,List.tail_cons,List.map_cons,List.reverse_cons]
    congr 2
    rw [List.take_of_length_le]
    rw [hl,List.length_cons] at hz
    omega
end Go.Proofs.YtibbgjafjhcemaaDoor.Cul
namespace Go.Proofs.YtibbgjafjhcemaaDoor.Cul
open Go Go.RowKit
noncomputable def bJ {α:Type} (pre:α→Prop) (enc:α→List PV) (g:α→RV):List PV→Option RV:=fun args=>by
 classical exact if h:∃a,pre a∧enc a=args then some (g h.choose) else none
theorem aM {α:Type} {pre:α→Prop} {enc:α→List PV} {g:α→RV} (hi:∀a b,enc a=enc b→g a=g b) {a:α} (h:pre a):bJ pre enc g (enc a)=some (g a):=by
 have hx:∃b,pre b∧enc b=enc a:=⟨a,h,rfl⟩
 unfold bJ
 rw [dif_pos hx]
 exact congrArg some (hi _ _ hx.choose_spec.2)
theorem au {α:Type} {P:Program} {f:Nat} {pre:α→Prop} {enc:α→List PV} {g:α→RV} (h:∀a,pre a→az P f (enc a) (g a)):∀args r,bJ pre enc g args=some r→az P f args r:=by
 intro args r e
 unfold bJ at e
 split at e
 · rename_i hx
   simp only [Option.some.injEq] at e
   subst e
   have:=h _ hx.choose_spec.1
   rwa [hx.choose_spec.2] at this
 · simp at e
noncomputable def yz {α:Type} (pre:α→Prop) (enc:α→List MA) (g:α→MR×List PV):List MA→Option (MR×List PV):=fun args=>by
 classical exact if h:∃a,pre a∧enc a=args then some (g h.choose) else none
theorem v5 {α:Type} {pre:α→Prop} {enc:α→List MA} {g:α→MR×List PV} (hi:∀a b,enc a=enc b→g a=g b) {a:α} (h:pre a):yz pre enc g (enc a)=some (g a):=by
 have hx:∃b,pre b∧enc b=enc a:=⟨a,h,rfl⟩
 unfold yz
 rw [dif_pos hx]
 exact congrArg some (hi _ _ hx.choose_spec.2)
theorem v7 {α:Type} {P:Program} {f:Nat} {pre:α→Prop} {enc:α→List MA} {g:α→MR×List PV} (h:∀a,pre a→jb P f (enc a) (g a).1 (g a).2):∀ms r cs',yz pre enc g ms=some (r,cs')→jb P f ms r cs':=by
 intro args r cs' e
 unfold yz at e
 split at e
 · rename_i hx
   simp only [Option.some.injEq] at e
   have:=h _ hx.choose_spec.1
   rw [e,hx.choose_spec.2] at this
   exact this
 · simp at e
end Go.Proofs.YtibbgjafjhcemaaDoor.Cul
namespace Go.Proofs.YtibbgjafjhcemaaDoor.Cul
open Go Go.RowKit
theorem wD {l m:List Nat} (h:us l=us m):l=m:=by
 induction l generalizing m with
 |nil=>cases m with
  |nil=>rfl
  |cons y m=>simp [us] at h
 |cons x l ih=>cases m with
  |nil=>simp [us] at h
  |cons y m=>
   simp only [us,List.map_cons,List.cons.injEq,ak,PV.lit.injEq,Value.int.injEq,true_and] at h
   rw [ih h.2];congr 1;omega
theorem fT {l m:List Nat} (h:nat l=nat m):l=m:=by
 simp only [nat,PV.sl.injEq] at h
 exact wD h.2.2
noncomputable def jx:List PV→Option RV:=bJ (fun l:List Nat=>l.length<2^40∧bf (4294967296:Nat) l) (fun l=>[nat l]) (fun l=>one (nat (dg (4294967296:Nat) (val (4294967296:Nat) l))))
noncomputable def t1:Cl:=bI [(95,jx)]
theorem XC (k n:Nat) (p:PV) (s:ByteArray) (cs0 cs ds:List PV):ay MD t1 k 92 [.lit (.string s)] [.i 8 (s.size+3:Nat), .i 9 n, .c false, .f cs0, .l (.exit 0) ⟨[(0, .pv (.lit (.string s))),(3, .bs 10 0 1 n),(12, .pv (iv s.size)),(13, .pv (iv s.size)),(14, .pv (bv false))],[(10,cs)],[],[]⟩, .f ds, .r (one p)]=
 some (RV.mk p none,[IntKind.i64.wrap ((↑s.size:Int)+(3:Int))=(↑(s.size+(3:Nat)):Int),IntKind.i64.wrap ((↑(s.size+(3:Nat)):Int).tdiv (4:Int))=(↑n:Int),false=false,(0:Int)≤(↑n:Int)∧(↑n:Int)≤(↑n:Int)∧(↑n:Int)* (↑(MD.P.bytesOf (111:Nat)):Int)≤(↑room:Int)∧(↑n:Int)≤(↑room:Int),decide ((↑n:Int)=(0:Int))=false,fP [PV.lit (Value.int IntKind.u32 (0:Int))] n cs0,aW MD t1 k (92:Nat) (0:Nat) (St.mk [(0,AV.pv (PV.lit (Value.string s))),(3,AV.bs 10 0 1 n),(12,AV.pv (PV.lit (Value.int IntKind.i64 (↑s.size:Int)))),(13,AV.pv (PV.lit (Value.int IntKind.i64 (0:Int))))] [(10,cs0)] [] []) (Xt.exit 0) (St.mk [(0,AV.pv (PV.lit (Value.string s))),(3,AV.bs 10 0 1 n),(12,AV.pv (PV.lit (Value.int IntKind.i64 (↑s.size:Int)))),(13,AV.pv (PV.lit (Value.int IntKind.i64 (↑s.size:Int)))),(14,AV.pv (PV.lit (Value.bool false)))] [(10,cs)] [] []),cH cs 0 (n* (1:Nat)) ds,aa t1 95 [PV.sl 1 n ds] (RV.mk p none)]):=by kernel_rfl
theorem XD (k n i b x y:Nat) (s:ByteArray) (cs cs':List PV):aA MD t1 k 92 0 ⟨[(0, .pv (.lit (.string s))),(3, .bs 10 0 1 n),(12, .pv (iv s.size)),(13, .pv (iv i))],[(10,cs)],[],[]⟩ [.c true, .i 18 (s.size - 1), .i 20 (s.size - 1 - i:Nat), .i 23 (i/4:Nat), .j 24 (i/4), .e 25 (ak x), .i 28 b, .i 29 b, .i 31 (i%4:Nat), .i 32 (8*(i%4):Nat), .i 33 (256^(i%4)* b:Nat), .i 34 y, .j 35 (i/4), .s cs', .i 36 ((i+1:Nat):Int)]=
 some ((Xt.normal,St.mk [(0,AV.pv (PV.lit (Value.string s))),(3,AV.bs 10 0 1 n),(12,AV.pv (PV.lit (Value.int IntKind.i64 (↑s.size:Int)))),(13,AV.pv (PV.lit (Value.int IntKind.i64 (↑(i+(1:Nat)):Int))))] [(10,cs')] [] []),[],[decide ((↑i:Int)<(↑s.size:Int))=true,IntKind.i64.wrap ((↑s.size:Int) - (1:Int))=(↑s.size:Int) - (1:Int),IntKind.i64.wrap ((↑s.size:Int) - (1:Int) - (↑i:Int))=(↑(s.size - (1:Nat) - i):Int),IntKind.i64.wrap ((↑i:Int).tdiv (4:Int))=(↑(i / (4:Nat)):Int),false=false,aK (↑(i / (4:Nat)):Int) n (i / (4:Nat)),Ld MD.P 111 cs ((0:Nat)+i / (4:Nat)* (1:Nat)) (PV.lit (Value.int IntKind.u32 (↑x:Int))),eE s (↑(s.size - (1:Nat) - i):Int) (↑b:Int),IntKind.u32.wrap (↑b:Int)=(↑b:Int),(↑i:Int).tmod (4:Int)=(↑(i%(4:Nat)):Int),false=false,IntKind.i64.wrap ((8:Int)* (↑(i%(4:Nat)):Int))=(↑((8:Nat)* (i%(4:Nat))):Int),IntKind.u32.wrap ((↑b:Int)* (2:Int)^min (↑((8:Nat)* (i%(4:Nat))):Int).toNat IntKind.u32.bits)=(↑((256:Nat)^(i%(4:Nat))* b):Int),decide ((↑((8:Nat)* (i%(4:Nat))):Int)<(0:Int))=false,IntKind.u32.wrap (↑(BitVec.ofInt IntKind.u32.bits (↑x:Int)|||BitVec.ofInt IntKind.u32.bits (↑((256:Nat)^(i%(4:Nat))* b):Int)).toNat:Int)=(↑y:Int),aK (↑(i / (4:Nat)):Int) n (i / (4:Nat)),(0:Nat)+i / (4:Nat)* (1:Nat)+(PV.lit (Value.int IntKind.u32 (↑y:Int))).cells.length≤cs.length,cg cs ((0:Nat)+i / (4:Nat)* (1:Nat)) [PV.lit (Value.int IntKind.u32 (↑y:Int))] cs',IntKind.i64.wrap ((↑i:Int)+(1:Int))=(↑(i+(1:Nat)):Int)]):=by kernel_rfl
theorem XE (k n i:Nat) (s:ByteArray) (cs:List PV):aA MD t1 k 92 0 ⟨[(0, .pv (.lit (.string s))),(3, .bs 10 0 1 n),(12, .pv (iv s.size)),(13, .pv (iv i))],[(10,cs)],[],[]⟩ [.c false]=
 some ((Xt.exit 0,St.mk [(0,AV.pv (PV.lit (Value.string s))),(3,AV.bs 10 0 1 n),(12,AV.pv (PV.lit (Value.int IntKind.i64 (↑s.size:Int)))),(13,AV.pv (PV.lit (Value.int IntKind.i64 (↑i:Int)))),(14,AV.pv (PV.lit (Value.bool false)))] [(10,cs)] [] []),[],[decide ((↑i:Int)<(↑s.size:Int))=false]):=by kernel_rfl
theorem XF (k:Nat) (p:PV) (s:ByteArray):ay MD t1 k 92 [.lit (.string s)] [.i 8 3, .i 9 0, .c true, .u 1, .c false, .r (one p)]=
 some (RV.mk p none,[IntKind.i64.wrap ((↑s.size:Int)+(3:Int))=(3:Int),(0:Int)=(0:Int),false=false,(0:Int)≤(0:Int)∧(0:Int)≤(0:Int)∧(0:Int)* (↑(MD.P.bytesOf (111:Nat)):Int)≤(↑room:Int)∧(0:Int)≤(↑room:Int),true=true,(1:Nat)≤k,decide ((0:Int)<(↑s.size:Int))=false,aa t1 95 [PV.sl 1 0 []] (RV.mk p none)]):=by kernel_rfl
theorem Jk {b r:Nat} (hb:b<256) (hr:r<4):IntKind.u32.wrap ((b:Int)* (2:Int)^min ((8* r:Nat):Int).toNat IntKind.u32.bits)=((256^r* b:Nat):Int):=by
 have e:min ((8* r:Nat):Int).toNat IntKind.u32.bits=8* r:=by
  rw [Int.toNat_natCast];show min (8* r) 32=8* r;omega
 rw [e]
 have e2:(2:Int)^(8* r)=((256^r:Nat):Int):=by
  rw [Int.pow_mul];simp
 rw [e2]
 have h1:256^r* b<2^32:=by
  have:256^r≤256^3:=Nat.pow_le_pow_right (by omega) (by omega)
  calc 256^r* b≤256^3* 255:=Nat.mul_le_mul this (by omega)
   _<2^32:=by decide
 exact iw (by rw [Int.mul_comm];simp) h1
theorem IF (k i n:Nat) (s:ByteArray) (hi:i<s.size) (hs:s.size<2^30) (hn:n=(s.size+3) / 4):aP MD t1 k 92 0 ⟨[(0, .pv (.lit (.string s))),(3, .bs 10 0 1 n),(12, .pv (iv s.size)),(13, .pv (iv i))],[(10,us (bE 4 (aT s) i n))],[],[]⟩=some (.normal,⟨[(0, .pv (.lit (.string s))),(3, .bs 10 0 1 n),(12, .pv (iv s.size)),(13, .pv (iv (i+1:Nat)))],[(10,us (bE 4 (aT s) (i+1) n))],[],[]⟩):=by
 obtain ⟨b,hb,ck⟩:=lY hi
 have nR:b<256:=ec s b (List.mem_of_getElem? hb)
 have hd:=ec s
 have hin:i / 4<n:=by omega
 have hx:(bE 4 (aT s) i n)[i / 4]? =some (cellAt 4 (aT s) i (i / 4)):=by simp [bE,hin]
 have hlt:=qU (c:=4) hd i (i / 4)
 have hm:min 4 (i - 4* (i / 4))=i%4:=by omega
 rw [hm] at hlt
 have hr:i%4<4:=by omega
 have hp:256^(i%4)* 256≤2^32:=by
  have:256^(i%4)≤256^3:=Nat.pow_le_pow_right (by omega) (by omega)
  omega
 have hsum:cellAt 4 (aT s) i (i / 4)+256^(i%4)* b<2^32:=by
  have h1:256^(i%4)* (b+1)≤256^(i%4)* 256:=Nat.mul_le_mul_left _ (by omega)
  rw [Nat.mul_add] at h1
  omega
 have Nh:(256:Nat)^(i%4)=2^(8* (i%4)):=by rw [Nat.pow_mul]
 refine an (XD k n i b (cellAt 4 (aT s) i (i / 4)) (cellAt 4 (aT s) i (i / 4)+256^(i%4)* b) s _ (us (bE 4 (aT s) (i+1) n))) ⟨?_, ?_, ?_, ?_,rfl, ?_, ?_, ?_, ?_, ?_,rfl, ?_, ?_, ?_, ?_, ?_, ?_, ?_, ?_,trivial⟩
 · simpa using hi
 · rw [wrap64]<;>omega
 · rw [wrap64]<;>omega
 · exact aR (gX i 4) (by omega)
 · exact ⟨rfl,hin⟩
 · exact iB hx (by omega)
 · show jg s _=_
   unfold jg
   rw [if_pos (by omega),Int.toNat_natCast]
   cases h:s[s.size - 1 - i]? with
   |none=>rw [h] at ck;simp at ck
   |some c=>rw [h] at ck;simp at ck;simp [ck]
 · exact iw rfl (by omega)
 · exact fl i 4
 · exact aR (by omega) (by omega)
 · exact Jk nR hr
 · simp;omega
 · rw [Nh] at hlt hsum ⊢
   exact F6 hlt hsum _ rfl
 · exact ⟨rfl,hin⟩
 · simp only [cC,dZ,PV.cells,List.length_singleton];omega
 · exact eZ (qV (by omega) hb) (by rw [dZ];exact hin) (by omega)
 · exact aR (by omega) (by omega)
theorem kS {l:List Nat} (h:l.length<2^40) (hd:bf (4294967296:Nat) l):jx [nat l]=some (one (nat (dg (4294967296:Nat) (val (4294967296:Nat) l)))):=
 aM (enc:=fun l=>[nat l]) (fun a b e=>by have:=fT (List.cons.inj e).1;subst this;rfl) ⟨h,hd⟩
theorem Em:aI MD.P t1:=aH (aj (au fun l h=>mI l h.1 h.2) aE)
theorem DT (s:ByteArray) (hs:s.size<2^30):az P0 92 [.lit (.string s)] (one (nat (dg (4294967296:Nat) (bM s)))):=by
 have hroom:(2:Int)^33≤(room:Int):=by decide
 by_cases h0:s.size=0
 · have e:bM s=0:=by
     have:aT s=[]:=List.length_eq_zero_iff.1 (by rw [bO];exact h0)
     simp [bM,this,val]
   rw [e]
   refine ah af Em (by rfl) (XF 1 (nat []) s) ⟨?_,rfl,rfl,⟨by omega,by omega,by omega,by omega⟩,rfl,by omega, ?_, ?_,trivial⟩
   · rw [h0];rfl
   · simp [h0]
   · exact kS (l:=[]) (by simp) (by simp [bf])
 · obtain ⟨n,hn⟩:∃n,n=(s.size+3) / 4:=⟨_,rfl⟩
   have hn0:0<n:=by omega
   have hend:val (4294967296:Nat) (bE 4 (aT s) s.size n)=bM s:=by
    have:=oo (c:=4) (by omega) n (aT s) (by rw [bO];omega)
    rw [bO] at this
    exact this
   refine ah af Em (by rfl) (XC (s.size+1) n (nat (dg (4294967296:Nat) (bM s))) s (us (List.replicate n 0)) (us (bE 4 (aT s) s.size n)) (us (bE 4 (aT s) s.size n))) ⟨?_, ?_,rfl,⟨by omega,by omega, ?_,by omega⟩, ?_,ja, ?_, ?_, ?_,trivial⟩
   · rw [wrap64]<;>omega
   · exact aR (by rw [hn];exact gX _ _) (by omega)
   · rw [mP];omega
   · simp;omega
   · have:=bN (f:=aP MD t1 (s.size+1) 92 0) (S:=fun i=>⟨[(0, .pv (.lit (.string s))),(3, .bs 10 0 1 n),(12, .pv (iv s.size)),(13, .pv (iv i))],[(10,us (bE 4 (aT s) i n))],[],[]⟩) (n:=s.size) (fun i hi=>IF _ i n s hi hs hn) (an (XE _ n s.size s _) ⟨by simp,trivial⟩) (by simp) (s.size+1) (by omega)
     rw [qW] at this
     exact this
   · refine je _ 0 (n* 1) ?_
     rw [List.drop_zero,List.take_of_length_le (by rw [dZ];omega)]
   · have:=kS (l:=bE 4 (aT s) s.size n) (by rw [dZ];omega) (td (ec s) _ _)
     rw [hend] at this
     simp only [nat,dZ] at this
     exact this
end Go.Proofs.YtibbgjafjhcemaaDoor.Cul
namespace Go.Proofs.YtibbgjafjhcemaaDoor.Cul
open Go Go.RowKit
noncomputable def t3:Cl:=bI []
theorem Un (k n m:Nat) (cs ds:List PV):ay MD t3 k 98 [.sl 1 n cs, .sl 1 m ds] [.c true]=
 some (RV.mk (PV.lit (Value.int IntKind.i64 (IntKind.i64.wrap ((↑n:Int) - (↑m:Int))))) none,[((↑n:Int) !=(↑m:Int))=true]):=by kernel_rfl
theorem P8 (k n m:Nat) (cs ds:List PV) (r:Int):ay MD t3 k 98 [.sl 1 n cs, .sl 1 m ds] [.c false, .l .ret ⟨[(4, .pv (iv r))],[],[],[]⟩]=
 some (RV.mk (PV.lit (Value.int IntKind.i64 r)) none,[((↑n:Int) !=(↑m:Int))=false,aW MD t3 k (98:Nat) (0:Nat) (St.mk [(0,AV.pv (PV.sl 1 n cs)),(1,AV.pv (PV.sl 1 m ds)),(5,AV.pv (PV.lit (Value.int IntKind.i64 (IntKind.i64.wrap ((↑n:Int) - (1:Int))))))] [] [] []) Xt.ret (St.mk [(4,AV.pv (PV.lit (Value.int IntKind.i64 r)))] [] [] [])]):=by kernel_rfl
theorem Uo (k n m:Nat) (cs ds:List PV):ay MD t3 k 98 [.sl 1 n cs, .sl 1 m ds] [.c false, .l (.exit 0) ⟨[(0, .pv (.sl 1 n cs)),(1, .pv (.sl 1 m ds)),(5, .pv (iv (-1))),(20, .pv (bv false))],[],[],[]⟩]=
 some (RV.mk (PV.lit (Value.int IntKind.i64 (0:Int))) none,[((↑n:Int) !=(↑m:Int))=false,aW MD t3 k (98:Nat) (0:Nat) (St.mk [(0,AV.pv (PV.sl 1 n cs)),(1,AV.pv (PV.sl 1 m ds)),(5,AV.pv (PV.lit (Value.int IntKind.i64 (IntKind.i64.wrap ((↑n:Int) - (1:Int))))))] [] [] []) (Xt.exit 0) (St.mk [(0,AV.pv (PV.sl 1 n cs)),(1,AV.pv (PV.sl 1 m ds)),(5,AV.pv (PV.lit (Value.int IntKind.i64 (-1:Int)))),(20,AV.pv (PV.lit (Value.bool false)))] [] [] [])]):=by kernel_rfl
theorem Ut (k n m:Nat) (cs ds:List PV) (i:Int):aA MD t3 k 98 0 ⟨[(0, .pv (.sl 1 n cs)),(1, .pv (.sl 1 m ds)),(5, .pv (iv i))],[],[],[]⟩ [.c false]=
 some ((Xt.exit 0,St.mk [(0,AV.pv (PV.sl 1 n cs)),(1,AV.pv (PV.sl 1 m ds)),(5,AV.pv (PV.lit (Value.int IntKind.i64 i))),(20,AV.pv (PV.lit (Value.bool false)))] [] [] []),[],[decide (i≥(0:Int))=false]):=by kernel_rfl
theorem Uu (k n m x y:Nat) (cs ds:List PV) (i:Int):aA MD t3 k 98 0 ⟨[(0, .pv (.sl 1 n cs)),(1, .pv (.sl 1 m ds)),(5, .pv (iv i))],[],[],[]⟩ [.c true, .a 26 [ak x], .a 30 [ak y], .c true]=
 some ((Xt.ret,St.mk [(4,AV.pv (PV.lit (Value.int IntKind.i64 (-1:Int))))] [] [] []),[],[decide (i≥(0:Int))=true,aL cs 1 i n [PV.lit (Value.int IntKind.u32 (↑x:Int))],aL ds 1 i m [PV.lit (Value.int IntKind.u32 (↑y:Int))],decide ((↑x:Int)<(↑y:Int))=true]):=by kernel_rfl
theorem Uv (k n m x y:Nat) (cs ds:List PV) (i:Int):aA MD t3 k 98 0 ⟨[(0, .pv (.sl 1 n cs)),(1, .pv (.sl 1 m ds)),(5, .pv (iv i))],[],[],[]⟩ [.c true, .a 26 [ak x], .a 30 [ak y], .c false, .a 36 [ak x], .a 40 [ak y], .c true]=
 some ((Xt.ret,St.mk [(4,AV.pv (PV.lit (Value.int IntKind.i64 (1:Int))))] [] [] []),[],[decide (i≥(0:Int))=true,aL cs 1 i n [PV.lit (Value.int IntKind.u32 (↑x:Int))],aL ds 1 i m [PV.lit (Value.int IntKind.u32 (↑y:Int))],decide ((↑x:Int)<(↑y:Int))=false,aL cs 1 i n [PV.lit (Value.int IntKind.u32 (↑x:Int))],aL ds 1 i m [PV.lit (Value.int IntKind.u32 (↑y:Int))],decide ((↑x:Int)>(↑y:Int))=true]):=by kernel_rfl
theorem Uw (k n m x y:Nat) (cs ds:List PV) (i j:Int):aA MD t3 k 98 0 ⟨[(0, .pv (.sl 1 n cs)),(1, .pv (.sl 1 m ds)),(5, .pv (iv i))],[],[],[]⟩ [.c true, .a 26 [ak x], .a 30 [ak y], .c false, .a 36 [ak x], .a 40 [ak y], .c false, .i 22 j]=
 some ((Xt.normal,St.mk [(0,AV.pv (PV.sl 1 n cs)),(1,AV.pv (PV.sl 1 m ds)),(5,AV.pv (PV.lit (Value.int IntKind.i64 j)))] [] [] []),[],[decide (i≥(0:Int))=true,aL cs 1 i n [PV.lit (Value.int IntKind.u32 (↑x:Int))],aL ds 1 i m [PV.lit (Value.int IntKind.u32 (↑y:Int))],decide ((↑x:Int)<(↑y:Int))=false,aL cs 1 i n [PV.lit (Value.int IntKind.u32 (↑x:Int))],aL ds 1 i m [PV.lit (Value.int IntKind.u32 (↑y:Int))],decide ((↑x:Int)>(↑y:Int))=false,IntKind.i64.wrap (i - (1:Int))=j]):=by kernel_rfl
theorem sg (k n:Nat) (cs:List PV) (r:Int):ay MD t3 k 94 [.sl 1 n cs] [.l (.exit 0) ⟨[(0, .pv (.sl 1 n cs)),(3, .pv (.lit (.int .u64 r))),(4, .pv (iv (-1))),(9, .pv (bv false))],[],[],[]⟩]=
 some (RV.mk (PV.lit (Value.int IntKind.u64 r)) none,[aW MD t3 k (94:Nat) (0:Nat) (St.mk [(0,AV.pv (PV.sl 1 n cs)),(3,AV.pv (PV.lit (Value.int IntKind.u64 (0:Int)))),(4,AV.pv (PV.lit (Value.int IntKind.i64 (IntKind.i64.wrap ((↑n:Int) - (1:Int))))))] [] [] []) (Xt.exit 0) (St.mk [(0,AV.pv (PV.sl 1 n cs)),(3,AV.pv (PV.lit (Value.int IntKind.u64 r))),(4,AV.pv (PV.lit (Value.int IntKind.i64 (-1:Int)))),(9,AV.pv (PV.lit (Value.bool false)))] [] [] [])]):=by kernel_rfl
theorem Yz (k n:Nat) (cs:List PV) (r i:Int):aA MD t3 k 94 0 ⟨[(0, .pv (.sl 1 n cs)),(3, .pv (.lit (.int .u64 r))),(4, .pv (iv i))],[],[],[]⟩ [.c false]=
 some ((Xt.exit 0,St.mk [(0,AV.pv (PV.sl 1 n cs)),(3,AV.pv (PV.lit (Value.int IntKind.u64 r))),(4,AV.pv (PV.lit (Value.int IntKind.i64 i))),(9,AV.pv (PV.lit (Value.bool false)))] [] [] []),[],[decide (i≥(0:Int))=false]):=by kernel_rfl
theorem YA (k n x:Nat) (cs:List PV) (r r1 r2 i j:Int):aA MD t3 k 94 0 ⟨[(0, .pv (.sl 1 n cs)),(3, .pv (.lit (.int .u64 r))),(4, .pv (iv i))],[],[],[]⟩ [.c true, .i 13 r1, .a 16 [ak x], .i 18 x, .i 19 r2, .i 11 j]=
 some ((Xt.normal,St.mk [(0,AV.pv (PV.sl 1 n cs)),(3,AV.pv (PV.lit (Value.int IntKind.u64 r2))),(4,AV.pv (PV.lit (Value.int IntKind.i64 j)))] [] [] []),[],[decide (i≥(0:Int))=true,IntKind.u64.wrap (r* (2:Int)^min (Int.toNat (32:Int)) IntKind.u64.bits)=r1,false=false,aL cs 1 i n [PV.lit (Value.int IntKind.u32 (↑x:Int))],IntKind.u64.wrap (↑x:Int)=(↑x:Int),IntKind.u64.wrap (↑(BitVec.ofInt IntKind.u64.bits r1|||BitVec.ofInt IntKind.u64.bits (↑x:Int)).toNat:Int)=r2,IntKind.i64.wrap (i - (1:Int))=j]):=by kernel_rfl
theorem wd (k:Nat) (n x y:Int) (p:PV):ay MD t1 k 82 [.lit (.int .u64 n)] [.i 4 x, .i 7 y, .r (one p)]=
 some (RV.mk p none,[IntKind.u32.wrap n=x,false=false,IntKind.u32.wrap (n.fdiv ((2:Int)^min (Int.toNat (32:Int)) IntKind.u64.bits))=y,aa t1 95 [PV.sl 1 2 [PV.lit (Value.int IntKind.u32 x),PV.lit (Value.int IntKind.u32 y)]] (RV.mk p none)]):=by kernel_rfl
def jj (l m:List Nat):Int:=if l.length≠m.length then (l.length:Int) - m.length else if val (4294967296:Nat) l<val (4294967296:Nat) m then -1 else if val (4294967296:Nat) m<val (4294967296:Nat) l then 1 else 0
theorem cN {b:Nat} {l:List Nat} (h:bf b l) {i x:Nat} (e:l[i]? =some x):x<b:=h x (List.mem_of_getElem? e)
theorem get_some {α:Type} {l:List α} {i:Nat} (h:i<l.length):∃x,l[i]? =some x:=⟨l[i],List.getElem?_eq_getElem h⟩
def lD (l m:List Nat) (j:Nat):Xt×St:=
 if val (4294967296:Nat) (l.take j)<val (4294967296:Nat) (m.take j) then (.ret,⟨[(4, .pv (iv (-1)))],[],[],[]⟩)
 else if val (4294967296:Nat) (m.take j)<val (4294967296:Nat) (l.take j) then (.ret,⟨[(4, .pv (iv 1))],[],[],[]⟩)
 else (.exit 0,⟨[(0, .pv (nat l)),(1, .pv (nat m)),(5, .pv (iv (-1))),(20, .pv (bv false))],[],[],[]⟩)
theorem zu (k:Nat) (l m:List Nat) (hl:bf (4294967296:Nat) l) (hm:bf (4294967296:Nat) m) (e:l.length=m.length) (hs:l.length<2^40):∀j,j≤l.length→bg (aP MD t3 k 98 0) (j+1) ⟨[(0, .pv (nat l)),(1, .pv (nat m)),(5, .pv (iv ((j:Int) - 1)))],[],[],[]⟩=some (lD l m j)
 |0,_=>by
  simp only [lD,List.take_zero,Nat.lt_irrefl,if_false]
  exact aV (an (Ut k _ _ _ _ _) ⟨by decide,trivial⟩) (by simp)
 |j+1,hj=>by
  obtain ⟨x,hx⟩:=get_some (l:=l) (i:=j) (by omega)
  obtain ⟨y,hy⟩:=get_some (l:=m) (i:=j) (by omega)
  have v1:=cy (b:=(4294967296:Nat)) hx
  have v2:=cy (b:=(4294967296:Nat)) hy
  have l1:=cY (eU hl j)
  have l2:=cY (eU hm j)
  have e1:(l.take j).length=j:=by rw [List.length_take];omega
  have e2:(m.take j).length=j:=by rw [List.length_take];omega
  rw [e1] at l1;rw [e2] at l2
  have hi:(((j+1:Nat):Int) - 1)=(j:Int):=by omega
  rw [hi]
  have r1:aL (us l) 1 (j:Int) l.length [ak x]:=cQ hx rfl
  have r2:aL (us m) 1 (j:Int) m.length [ak y]:=cQ hy rfl
  have h0:decide ((j:Int)≥0)=true:=by simp
  rcases Nat.lt_trichotomy x y with h|h|h
  · have hv:val (4294967296:Nat) (l.take (j+1))<val (4294967296:Nat) (m.take (j+1)):=by
      rw [v1,v2]
      have:(4294967296:Nat)^j* (x+1)≤(4294967296:Nat)^j* y:=Nat.mul_le_mul_left _ h
      rw [Nat.mul_add] at this
      omega
    simp only [lD,if_pos hv]
    exact aV (an (Uu k _ _ x y _ _ _) ⟨h0,r1,r2,by simpa using h,trivial⟩) (by simp)
  · subst h
    have hc:lD l m (j+1)=lD l m j:=by
     simp only [lD,v1,v2,Nat.add_lt_add_iff_right]
    rw [hc]
    exact bn (an (Uw k _ _ x x _ _ _ ((j:Int) - 1)) ⟨h0,r1,r2,by simp,r1,r2,by simp,by rw [wrap64]<;>omega,trivial⟩) (zu k l m hl hm e hs j (by omega))
  · have hv:val (4294967296:Nat) (m.take (j+1))<val (4294967296:Nat) (l.take (j+1)):=by
      rw [v1,v2]
      have:(4294967296:Nat)^j* (y+1)≤(4294967296:Nat)^j* x:=Nat.mul_le_mul_left _ h
      rw [Nat.mul_add] at this
      omega
    have Ad:¬val (4294967296:Nat) (l.take (j+1))<val (4294967296:Nat) (m.take (j+1)):=by omega
    simp only [lD,if_pos hv,if_neg Ad]
    exact aV (an (Uv k _ _ x y _ _ _) ⟨h0,r1,r2,by simp;omega,r1,r2,by simpa using h,trivial⟩) (by simp)
theorem ku:aI MD.P t3:=aH aE
theorem uO (l m:List Nat) (hl:bf (4294967296:Nat) l) (hm:bf (4294967296:Nat) m) (h1:l.length<2^40) (h2:m.length<2^40):az P0 98 [nat l,nat m] (one (iv (jj l m))):=by
 by_cases e:l.length=m.length
 · have hw:IntKind.i64.wrap ((l.length:Int) - 1)=(l.length:Int) - 1:=by rw [wrap64]<;>omega
   have iM:=zu (l.length+1) l m hl hm e h1 l.length (Nat.le_refl _)
   have hne:((l.length:Int) !=(m.length:Int))=false:=by simp [e]
   have t1:l.take l.length=l:=List.take_length
   have t2:m.take l.length=m:=by rw [e];exact List.take_length
   unfold lD at iM
   rw [t1,t2] at iM
   unfold jj
   rw [if_neg (by simpa using e)]
   by_cases v1:val (4294967296:Nat) l<val (4294967296:Nat) m
   · rw [if_pos v1] at iM ⊢
     exact ah af ku (by rfl) (P8 (l.length+1) _ _ _ _ (-1)) ⟨hne,by rw [hw];exact iM,trivial⟩
   · rw [if_neg v1] at iM ⊢
     by_cases v2:val (4294967296:Nat) m<val (4294967296:Nat) l
     · rw [if_pos v2] at iM ⊢
       exact ah af ku (by rfl) (P8 (l.length+1) _ _ _ _ 1) ⟨hne,by rw [hw];exact iM,trivial⟩
     · rw [if_neg v2] at iM ⊢
       exact ah af ku (by rfl) (Uo (l.length+1) _ _ _ _) ⟨hne,by rw [hw];exact iM,trivial⟩
 · have:=ah af ku (by rfl) (Un 1 l.length m.length (us l) (us m)) ⟨by simp;omega,trivial⟩
   rw [wrap64 (by omega) (by omega)] at this
   unfold jj
   rw [if_pos e]
   exact this
theorem nO {a b:Nat} (h:(dg (4294967296:Nat) a).length<(dg (4294967296:Nat) b).length):a<b:=by
 have h1:=cE (b:=(4294967296:Nat)) (n:=a) (by decide)
 rcases Nat.eq_zero_or_pos b with rfl|hb
 · simp [dM] at h
 · have h2:=nN (b:=(4294967296:Nat)) (by decide) hb
   have:(4294967296:Nat)^(dg (4294967296:Nat) a).length≤(4294967296:Nat)^((dg (4294967296:Nat) b).length - 1):=Nat.pow_le_pow_right (by decide) (by omega)
   omega
theorem uN (a b:Nat):jj (dg (4294967296:Nat) a) (dg (4294967296:Nat) b)<0↔a<b:=by
 unfold jj
 rw [bS (by decide),bS (by decide)]
 split
 · rename_i h
   constructor
   · intro h2;exact nO (by omega)
   · intro h2
     rcases Nat.lt_or_ge (dg (4294967296:Nat) b).length (dg (4294967296:Nat) a).length with h3|h3
     · have:=nO h3;omega
     · omega
 · split
   · simp_all
   · split<;>simp_all
theorem bz {a:Int} {m:Nat} (h:a=(m:Int)) (hm:m<2^64):IntKind.u64.wrap a=(m:Int):=by
 subst h
 unfold IntKind.wrap IntKind.bits IntKind.signed
 simp only
 have e1:(2:Int)^64=18446744073709551616:=by decide
 rw [e1]
 simp only [Bool.false_and]
 rw [Int.emod_eq_of_lt (by omega) (by omega)]
 simp
theorem nh {x z r:Nat} (hx:x<2^r) (h:2^r* z+x<2^64) (y:Nat) (hy:y=2^r* z+x):IntKind.u64.wrap ((BitVec.ofInt IntKind.u64.bits ((2^r* z:Nat):Int)|||BitVec.ofInt IntKind.u64.bits (x:Int)).toNat:Int)=(y:Int):=by
 have e:(BitVec.ofInt IntKind.u64.bits ((2^r* z:Nat):Int)|||BitVec.ofInt IntKind.u64.bits (x:Int)).toNat=y:=by
  rw [BitVec.toNat_or,BitVec.ofInt_natCast,BitVec.ofInt_natCast,BitVec.toNat_ofNat,BitVec.toNat_ofNat]
  show (2^r* z)%2^64|||x%2^64=y
  rw [Nat.mod_eq_of_lt (by omega),Nat.mod_eq_of_lt (by omega),←Nat.two_pow_add_eq_or_of_lt hx,hy]
 rw [e]
 exact bz rfl (by omega)
def bC (x:Nat):PV:= .lit (.int .u64 (x:Int))
theorem tX {b:Nat} {l:List Nat} {j x:Nat} (h:l[j]? =some x):val b (l.drop j)=x+b* val b (l.drop (j+1)):=by
 have hj:=gB h
 rw [List.drop_eq_getElem_cons hj,val]
 rw [List.getElem?_eq_getElem hj] at h
 simp only [Option.some.injEq] at h
 rw [h]
theorem tH (k:Nat) (l:List Nat) (hl:bf (4294967296:Nat) l) (h2:l.length≤2):∀j,j≤l.length→bg (aP MD t3 k 94 0) (j+1) ⟨[(0, .pv (nat l)),(3, .pv (bC (val (4294967296:Nat) (l.drop j)))),(4, .pv (iv ((j:Int) - 1)))],[],[],[]⟩=some (.exit 0,⟨[(0, .pv (nat l)),(3, .pv (bC (val (4294967296:Nat) l))),(4, .pv (iv (-1))),(9, .pv (bv false))],[],[],[]⟩)
 |0,_=>aV (an (Yz k _ _ _ _) ⟨by decide,trivial⟩) (by simp)
 |j+1,hj=>by
  obtain ⟨x,hx⟩:=get_some (l:=l) (i:=j) (by omega)
  have qI:=cN hl hx
  have hi:(((j+1:Nat):Int) - 1)=(j:Int):=by omega
  rw [hi]
  have hd:=tX (b:=(4294967296:Nat)) hx
  have hlt:=cY (jE hl (j+1))
  have Ii:val (4294967296:Nat) (l.drop (j+1))<(4294967296:Nat):=by
   refine Nat.lt_of_lt_of_le hlt ?_
   have:(4294967296:Nat)^(l.drop (j+1)).length≤(4294967296:Nat)^1:=Nat.pow_le_pow_right (by decide) (by rw [List.length_drop];omega)
   simpa using this
  refine bn (an (YA k _ x _ _ ((2^32* val (4294967296:Nat) (l.drop (j+1)):Nat):Int) ((val (4294967296:Nat) (l.drop j):Nat):Int) _ ((j:Int) - 1)) ⟨by simp, ?_,rfl,cQ hx rfl, ?_, ?_, ?_,trivial⟩) (tH k l hl h2 j (by omega))
  · refine bz ?_ (by omega)
    have e:min (Int.toNat 32) IntKind.u64.bits=32:=by decide
    rw [e]
    have e1:(2:Int)^32=4294967296:=by decide
    rw [e1];omega
  · exact bz rfl (by omega)
  · exact nh (r:=32) (by omega) (by omega) _ (by rw [hd];omega)
  · rw [wrap64]<;>omega
theorem GS (l:List Nat) (hl:bf (4294967296:Nat) l) (h2:l.length≤2):az P0 94 [nat l] (one (bC (val (4294967296:Nat) l))):=by
 have iM:=tH (l.length+1) l hl h2 l.length (Nat.le_refl _)
 rw [List.drop_length] at iM
 have hw:IntKind.i64.wrap ((l.length:Int) - 1)=(l.length:Int) - 1:=by rw [wrap64]<;>omega
 exact ah af ku (by rfl) (sg (l.length+1) _ _ _) ⟨by rw [hw];exact iM,trivial⟩
theorem C0 (n:Nat) (h:n<2^64):az P0 82 [bC n] (one (nat (dg (4294967296:Nat) n))):=by
 have hd:bf (4294967296:Nat) [n%(4294967296:Nat),n / (4294967296:Nat)]:=by
  intro x hx
  simp at hx
  rcases hx with rfl|rfl
  · exact Nat.mod_lt _ (by decide)
  · omega
 have hv:val (4294967296:Nat) [n%(4294967296:Nat),n / (4294967296:Nat)]=n:=by simp [val];omega
 have:=kS (l:=[n%(4294967296:Nat),n / (4294967296:Nat)]) (by simp) hd
 rw [hv] at this
 refine ah af Em (by rfl) (wd 1 n ((n%(4294967296:Nat):Nat):Int) ((n / (4294967296:Nat):Nat):Int) _) ⟨?_,rfl, ?_,this,trivial⟩
 · unfold IntKind.wrap IntKind.bits IntKind.signed
   simp only
   have e1:(2:Int)^32=4294967296:=by decide
   rw [e1]
   simp
 · have e:min (Int.toNat 32) IntKind.u64.bits=32:=by decide
   rw [e]
   refine iw ?_ (by omega)
   have e1:(2:Int)^32=4294967296:=by decide
   rw [e1,Int.fdiv_eq_ediv_of_nonneg _ (by omega)];omega
end Go.Proofs.YtibbgjafjhcemaaDoor.Cul
namespace Go.Proofs.YtibbgjafjhcemaaDoor.Cul
open Go Go.RowKit
noncomputable def Q1:List PV→Option RV:=bJ (fun _:ByteArray=>True) (fun s=>[.lit (.string s), .lit (.int .u8 0)]) (fun s=>one (.lit (.string (ai (bM s)))))
noncomputable def t4:Cl:=bI [(118,Q1)]
def bt (n:Nat):PV:= .lit (.int .u8 (n:Int))
def zs:ByteArray:=⟨#[0]⟩
theorem YO (k:Nat) (s:ByteArray):aA MD t3 k 118 0 ⟨[(0, .pv (.lit (.string s))),(1, .pv (bt 0))],[],[],[]⟩ [.c false]=
 some ((Xt.exit 0,St.mk [(0,AV.pv (PV.lit (Value.string s))),(1,AV.pv (PV.lit (Value.int IntKind.u8 (0:Int)))),(13,AV.pv (PV.lit (Value.bool false)))] [] [] []),[],[decide ((↑s.size:Int)>(0:Int))=false]):=by kernel_rfl
theorem YQ (k b:Nat) (s:ByteArray):aA MD t3 k 118 0 ⟨[(0, .pv (.lit (.string s))),(1, .pv (bt 0))],[],[],[]⟩ [.c true, .i 10 b, .c false]=
 some ((Xt.exit 0,St.mk [(0,AV.pv (PV.lit (Value.string s))),(1,AV.pv (PV.lit (Value.int IntKind.u8 (0:Int)))),(13,AV.pv (PV.lit (Value.bool false)))] [] [] []),[],[decide ((↑s.size:Int)>(0:Int))=true,eE s (0:Int) (↑b:Int),((↑b:Int)==(↑(0:Nat):Int))=false]):=by kernel_rfl
theorem YR (k b:Nat) (s s':ByteArray):aA MD t3 k 118 0 ⟨[(0, .pv (.lit (.string s))),(1, .pv (bt 0))],[],[],[]⟩ [.c true, .i 10 b, .c true, .w 15 s']=
 some ((Xt.normal,St.mk [(0,AV.pv (PV.lit (Value.string s'))),(1,AV.pv (PV.lit (Value.int IntKind.u8 (0:Int))))] [] [] []),[],[decide ((↑s.size:Int)>(0:Int))=true,eE s (0:Int) (↑b:Int),((↑b:Int)==(↑(0:Nat):Int))=true,C8 MD.P 9 s (some (Value.int IntKind.i64 (1:Int))) none s']):=by kernel_rfl
theorem tb (k:Nat) (s s':ByteArray):ay MD t3 k 118 [.lit (.string s),bt 0] [.l (.exit 0) ⟨[(0, .pv (.lit (.string s'))),(1, .pv (bt 0)),(13, .pv (bv false))],[],[],[]⟩]=
 some (RV.mk (PV.lit (Value.string s')) none,[aW MD t3 k (118:Nat) (0:Nat) (St.mk [(0,AV.pv (PV.lit (Value.string s))),(1,AV.pv (PV.lit (Value.int IntKind.u8 (0:Int))))] [] [] []) (Xt.exit 0) (St.mk [(0,AV.pv (PV.lit (Value.string s'))),(1,AV.pv (PV.lit (Value.int IntKind.u8 (0:Int)))),(13,AV.pv (PV.lit (Value.bool false)))] [] [] [])]):=by kernel_rfl
theorem YS (k:Nat) (s s':ByteArray):ay MD t4 k 110 [.lit (.string s), .lit (.string zs)] [.c false, .c false, .c true, .c true, .r (one (.lit (.string s')))]=
 some (RV.mk (PV.lit (Value.string s')) none,[(s.toList==(ByteArray.mk #[]).toList)=false,false=false,true=true,true=true,aa t4 118 [PV.lit (Value.string s),PV.lit (Value.int IntKind.u8 (0:Int))] (RV.mk (PV.lit (Value.string s')) none)]):=by kernel_rfl
theorem YU (k:Nat) (s s':ByteArray):ay MD t4 k 110 [.lit (.string s), .lit (.string zs)] [.c true]=
 some (RV.mk (PV.lit (Value.string s)) none,[(s.toList==(ByteArray.mk #[]).toList)=true]):=by kernel_rfl
def sv (s:ByteArray):PV:= .lit (.string s)
theorem Uc:MD.P.underlying 9=some .string:=by kernel_rfl
theorem Ek {s:ByteArray} {i:Nat} (h:i≤s.size):C8 MD.P 9 s (some (.int .i64 (i:Int))) none (s.extract i s.size):=by
 show cM MD.P _=_
 simp [cM,Instr.sliceAt,Instr.slice,Instr.sliceBounds,Instr.sliceBound,asIntOf,underlying,program,Uc,aB,iS,ir,Bind.bind,Sem.bind,pure,Pure.pure,h]
theorem rH {s:ByteArray} {m:List Nat} {x:Nat} (h:aT s=m++[x]) (hx:0<x):C6 s:= .inr ⟨m,x,h,hx⟩
theorem lM {s:ByteArray} {i:Nat} {b:UInt8} (h:s[i]? =some b):eE s (i:Int) (b.toNat:Int):=by
 show jg s (i:Int)=some (b.toNat:Int)
 unfold jg
 rw [if_pos (by omega),Int.toNat_natCast,h];rfl
theorem CV (k:Nat):∀(n:Nat) (s:ByteArray),s.size=n→bg (aP MD t3 k 118 0) (n+1) ⟨[(0, .pv (sv s)),(1, .pv (bt 0))],[],[],[]⟩=some (.exit 0,⟨[(0, .pv (sv (ai (bM s)))),(1, .pv (bt 0)),(13, .pv (bv false))],[],[],[]⟩)
 |0,s,hs=>by
  have e:aT s=[]:=List.length_eq_zero_iff.1 (by rw [bO];exact hs)
  rw [lG (.inl e)]
  exact aV (an (YO k s) ⟨by simp [hs],trivial⟩) (by simp)
 |n+1,s,hs=>by
  obtain ⟨b,hb,hl⟩:=jm hs
  have h0:decide ((s.size:Int)>0)=true:=by simp;omega
  by_cases hz:b.toNat=0
  · have hv:bM s=bM (s.extract 1 s.size):=by
      rw [bM,hl,hz,r7];rfl
    rw [hv]
    have hsz:(s.extract 1 s.size).size=n:=by
     have:=congrArg List.length hl
     rw [bO,List.length_append,bO] at this
     rw [List.length_singleton] at this;omega
    have hst:eE s 0 ((0:Nat):Int):=by rw [←hz];exact lM hb
    exact bn (an (YR k 0 s (s.extract 1 s.size)) ⟨h0,hst,by simp,Ek (i:=1) (by omega),trivial⟩) (CV k n _ hsz)
  · rw [lG (rH hl (by omega))]
    exact aV (an (YQ k b.toNat s) ⟨h0,lM hb,by simpa using hz,trivial⟩) (by simp)
theorem BP (s:ByteArray):az P0 118 [sv s,bt 0] (one (sv (ai (bM s)))):=
 ah af ku (by rfl) (tb (s.size+1) _ _) ⟨CV _ s.size s rfl,trivial⟩
theorem OW (s:ByteArray):Q1 [sv s,bt 0]=some (one (sv (ai (bM s)))):=
 aM (enc:=fun s:ByteArray=>[.lit (.string s), .lit (.int .u8 0)]) (fun a b e=>by simp only [List.cons.injEq,PV.lit.injEq,Value.string.injEq] at e;rw [e.1]) trivial
theorem Kz:aI MD.P t4:=aH (aj (au fun s _=>BP s) aE)
theorem BQ (s:ByteArray):az P0 110 [sv s,sv zs] (one (sv (ai (bM s)))):=by
 by_cases h:s.size=0
 · have e:aT s=[]:=List.length_eq_zero_iff.1 (by rw [bO];exact h)
   rw [lG (.inl e)]
   refine ah af Kz (by rfl) (YU 1 s s) ⟨?_,trivial⟩
   rw [ByteArray.toList_eq,ByteArray.toList_eq]
   have:s.data.toList=[]:=List.length_eq_zero_iff.1 h
   rw [this];rfl
 · refine ah af Kz (by rfl) (YS 1 s _) ⟨?_,rfl,rfl,rfl,OW s,trivial⟩
   rw [ByteArray.toList_eq,ByteArray.toList_eq]
   cases hl:s.data.toList with
   |nil=>exact absurd (show s.size=0 from by show s.data.toList.length=0;rw [hl];rfl) h
   |cons c t=>rfl
end Go.Proofs.YtibbgjafjhcemaaDoor.Cul
