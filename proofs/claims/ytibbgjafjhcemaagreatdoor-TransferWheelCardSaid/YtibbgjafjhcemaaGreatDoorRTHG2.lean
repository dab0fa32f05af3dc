/- Part of a proof by an abstract machine for the program's code: lemmas, without conditions of their own beyond those that each states. (Made smaller by a program: short names, no comments.) -/
import Derived.Test.YtibbgjafjhcemaaGreatDoorCards
import Derived.Test.YtibbgjafjhcemaaGreatDoorTie
import Derived.WalkKit
import Derived.ProofKit
import Derived.OpenShut
import Derived.Deep.DeepHandedRow
import Derived.Lib.LaidTab
import Derived.Test.YtibbgjafjhcemaaGreatDoorProg
import Derived.Laws.Strings
import Derived.Test.YtibbgjafjhcemaaGreatDoorRTHG1
set_option linter.unusedVariables false
set_option linter.unusedSimpArgs false
namespace Go.Proofs.YtibbgjafjhcemaaGreatDoor.Cul
open Go Go.RowKit
theorem Dp {N M:Nat} (h:N≤M) {ops:Array Oper} {dr:Bool} (hok:lX N ops dr=true):lX M ops dr=true:=by
 simp only [lX,Bool.and_eq_true] at hok ⊢
 refine ⟨List.all_eq_true.2 fun o ho=> ?_,hok.2⟩
 have:=List.all_eq_true.1 hok.1 o ho
 cases hd:o.dst with
 |none=>rfl
 |some d=>rw [hd] at this;simp only [decide_eq_true_eq] at this ⊢;exact Nat.lt_of_lt_of_le this h
theorem cZ {N M:Nat} (h:N≤M):∀{c:Code},bN N c=true→bN M c=true
 | .skip,_=>rfl
 | .region ..,hok=>Dp h hok
 | .seq ..,hok=>by simp only [bN,Bool.and_eq_true] at hok ⊢;exact ⟨cZ h hok.1,cZ h hok.2⟩
 | .cond ..,hok=>by simp only [bN,Bool.and_eq_true] at hok ⊢;exact ⟨cZ h hok.1,cZ h hok.2⟩
 | .block _ _,hok=>by simp only [bN] at hok ⊢;exact cZ h hok
 | .loop _,hok=>by simp only [bN] at hok ⊢;exact cZ h hok
 | .rangeFunc _ ps a b,hok=>by
   simp only [bN,Bool.and_eq_true] at hok ⊢
   obtain ⟨⟨⟨⟨LZ,zy⟩,Me⟩,Mf⟩,hps⟩:=hok
   refine ⟨⟨⟨⟨LZ,zy⟩,cZ h Me⟩,cZ h Mf⟩,List.all_eq_true.2 fun p hp=> ?_⟩
   have:=List.all_eq_true.1 hps p hp
   simp only [decide_eq_true_eq] at this ⊢
   exact Nat.lt_of_lt_of_le this h
 | .exit _,_=>rfl
 | .ret,_=>rfl
theorem pW:∀(l:List PV) (i t:Nat) (av:AV),look (slotsOf i l) t=some av→∃j p,t=i+j∧l[j]? =some p∧av= .pv p
 |[],i,t,av,h=>by simp [slotsOf,look] at h
 |p::l,i,t,av,h=>by
  simp only [slotsOf,look] at h
  split at h
  · rename_i e;exact ⟨0,p,by omega,rfl,(Option.some.inj h).symm⟩
  · obtain ⟨j,q,h1,h2,h3⟩:=pW l (i+1) t av h
    exact ⟨j+1,q,by omega,by simpa using h2,h3⟩
section
variable {P:Program} {base:Nat} {w w0:World} {Pr aL:aC} {bk:Key→Nat} {aT:ef} {st st':St} {a:Act} {N:Nat} {call:Cl}
theorem qQ {args:List PV} {vs:List Value} (hp:∀b o,Pr b o→b<w.heap.size) (hr:aM w Pr args vs) (k:Nat):
  Inv w.heap.size w Pr (fun _=>0) (St.enter args) { tmps:=vs.toArray++Array.replicate k undef,defers:=[]} (vs.length+k):=by
 have hnl:∀x,¬live (St.enter args) x:=by
  intro x hx
  cases x with
  |bx k=>obtain ⟨cs,h⟩:=hx;simp [St.enter,look] at h
  |sx t=>
   rcases hx with ⟨sz,n,cs,h⟩|⟨z,h⟩
   · obtain ⟨j,p,_,_,e⟩:=pW args 0 t _ h;simp at e
   · simp [St.enter,aG] at h
  |cx k o=>obtain ⟨z,h⟩:=hx;simp [St.enter,aG] at h
 constructor
 · simp
 · exact ⟨by simp,List.nodup_nil⟩
 · exact Nat.le_refl _
 · exact hp
 · intro t av ht
   obtain ⟨j,p,h1,h2,rfl⟩:=pW args 0 t av ht
   obtain ⟨v,h3,h4⟩:=hr.get j p h2
   refine ⟨v, ?_,h4⟩
   have hj:j<vs.length:=(List.getElem?_eq_some_iff.1 h3).1
   have:t=j:=by omega
   subst this
   rw [Array.getElem?_append_left (by simpa using hj)]
   simpa using h3
 · exact fun x hx=>absurd hx (hnl x)
 · exact fun x _ hx=>absurd hx (hnl x)
 · intro k cs h;simp [St.enter,look] at h
 · intro t z h;simp [St.enter,aG] at h
 · intro k i z h;simp [St.enter,aG] at h
 · intro t q h;simp [St.enter,look] at h
theorem Eu (I:Inv base w Pr bk st a N) (r:ResultVar):∃aD aN,Inv base w aD aN (st.fix r) a N∧Kp w Pr w aD∧∀b o,b<base→aD b o→Pr b o:=by
 cases r with
 |cell t ty=>exact ⟨Pr,bk,I,Kp.refl _ _,fun _ _ _ h=>h⟩
 |tmp t=>obtain ⟨aD,aN,h1,h2,h3,_⟩:=I.fO true t;exact ⟨aD,aN,h1,h2,h3⟩
def gw (tmps:Array Value):ResultVar→Sem Value
 | .tmp t=>pure (tmps.getD t undef)
 | .cell g t=>do loadVar t (←asAddr (tmps.getD g undef))
theorem getD_some {tmps:Array Value} {t:Nat} {v:Value} (h:tmps[t]? =some v):tmps.getD t undef=v:=by simp [h]
theorem uk (I:Inv base w Pr bk st a N) {r:ResultVar} {rv:RV} (h:ku P st r=some rv):∃v,(gw a.tmps r).run P w= .ok v w∧Rp w Pr rv.v v∧
  ∀z,rv.gr=some z→∃b o n cap cs,rv.v= .sl z n cs∧v= .slice (some ⟨b,o,none⟩) n cap∧Room w Pr b o n cap z∧o=0∧base≤b∧b<w.heap.size:=by
 cases r with
 |tmp t=>
  simp only [ku] at h
  split at h
  · rename_i p hl
    simp only [Option.some.injEq] at h;subst h
    obtain ⟨v,hv,hr⟩:=I.slots t _ hl
    refine ⟨v,by simp [gw,hv],hr,fun z hz=> ?_⟩
    obtain ⟨o,n,cap,cs,h1,h2,h3,h0⟩:=I.gE t z hz
    have hown:=I.own (.sx t) (.inr ⟨z,hz⟩)
    rw [hl] at h1
    rw [hv] at h2
    exact ⟨_,o,n,cap,cs,by simpa using h1,by simpa using h2,h3,h0,hown.1,hown.2⟩
  · simp at h
 |cell t ty=>
  simp only [ku] at h
  split at h
  · rename_i k o hl
    simp only [Option.bind_eq_some_iff,Option.map_eq_some_iff] at h
    obtain ⟨cs,hb,p,hp,rfl⟩:=h
    obtain ⟨v0,oO,BP⟩:=I.slots t _ hl
    simp only [dD] at BP
    obtain ⟨⟨T,c,vs,h1,h0,h2,h3⟩,h4⟩:=I.boxes k cs hb
    have uT:w.rangeAt (bk (.bx k)) 0 vs:=iQ h1 h0
    obtain ⟨v,hv,cQ,hrow⟩:=mb (w:=w) (Pr:=Pr) hp h2 h3 uT
    refine ⟨v, ?_,cQ,fun z hz=> ?_⟩
    · simp only [gw,getD_some oO,BP,asAddr,Sem.run_bind,Sem.run_pure,Result.andThen_ok]
      rw [Nat.zero_add] at hv;exact hv
    · simp only at hz
      split at hz
      · simp at hz
      · rename_i rj
        obtain ⟨Ms,Ue⟩:=hrow (by simpa using rj)
        obtain ⟨o',n,cap,cs',dc,e1,e2,e3,e4,e9⟩:=I.ig k o z hz
        have hown:=I.own (.cx k o) ⟨z,hz⟩
        rw [hb] at e1;cases e1
        rw [Ue] at e2
        have e5:w.cell? ⟨bk (.bx k),o,none⟩=some v:=by have:=uT o v Ms;rwa [Nat.zero_add] at this
        rw [e5] at e3
        exact ⟨_,o',n,cap,cs',by simpa using e2,by simpa using e3,e4,e9,hown.1,hown.2⟩
  · simp at h
theorem v8 (I:Inv base w Pr bk st a N) {aD:aC} (hk:Kp w Pr w aD):∀(caps:List Cap) (vs:List Value) (ps:List PV),vs.length=caps.length→(∀(i:Nat) (c:Cap) (u:Value),caps[i]? =some c→vs[i]? =some u→gJ w Pr bk c u)→
  (∀k off,Cap.bp k off∈caps→∀o,aD (bk (.bx k)) o)→dF st caps=some ps→aM w aD ps vs
 |[],[],ps,_,_,_,h=>by simp only [dF,Option.some.injEq] at h;subst h;exact .nil
 |[],v::vs,ps,hl,_,_,_=>by simp at hl
 |c::caps,[],ps,hl,_,_,_=>by simp at hl
 | .pv p::caps,v::vs,ps,hl,hc,hp,h=>by
   simp only [dF,Option.map_eq_some_iff] at h
   obtain ⟨qs,hq,rfl⟩:=h
   exact .cons (Rp.mono hk (hc 0 _ v rfl rfl)) (v8 I hk caps vs qs (by simpa using hl) (fun i c u h1 h2=>hc (i+1) c u (by simpa using h1) (by simpa using h2)) (fun k off hm=>hp k off (List.mem_cons_of_mem _ hm)) hq)
 | .bp k off::caps,v::vs,ps,hl,hc,hp,h=>by
   simp only [dF,Option.bind_eq_some_iff,Option.map_eq_some_iff] at h
   obtain ⟨cs,hb,qs,hq,rfl⟩:=h
   refine .cons ?_ (v8 I hk caps vs qs (by simpa using hl) (fun i c u h1 h2=>hc (i+1) c u (by simpa using h1) (by simpa using h2)) (fun k off hm=>hp k off (List.mem_cons_of_mem _ hm)) hq)
   have hv:v= .pointer (some ⟨bk (.bx k),off,none⟩):=hc 0 _ v rfl rfl
   obtain ⟨⟨T,c,us,h1,h0,h2,h3⟩,_⟩:=I.boxes k cs hb
   have uT:w.rangeAt (bk (.bx k)) 0 us:=iQ h1 h0
   have gW:=dy uT off
   rw [Nat.zero_add] at gW
   rw [hv]
   exact .el ((aM.mono hk h2).drop off) (fun u hu=>h3 u (List.mem_of_mem_drop hu)) gW (fun i hi=>hp k off (by simp) _)
theorem A6 (I:Inv base w Pr bk st a N) {r:ResultVar} {rv:RV} (h:pG P st r=some rv):∃v aD,(gw a.tmps r).run P w= .ok v w∧Rp w aD rv.v v∧(∀b o,b<base→aD b o→Pr b o)∧(∀b o,aD b o→b<w.heap.size)∧
  ∀z,rv.gr=some z→∃b o n cap cs,rv.v= .sl z n cs∧v= .slice (some ⟨b,o,none⟩) n cap∧Room w aD b o n cap z∧o=0∧base≤b∧b<w.heap.size:=by
 have old:ku P st r=some rv→∃v aD,(gw a.tmps r).run P w= .ok v w∧Rp w aD rv.v v∧(∀b o,b<base→aD b o→Pr b o)∧(∀b o,aD b o→b<w.heap.size)∧
   ∀z,rv.gr=some z→∃b o n cap cs,rv.v= .sl z n cs∧v= .slice (some ⟨b,o,none⟩) n cap∧Room w aD b o n cap z∧o=0∧base≤b∧b<w.heap.size:=fun h=>by
  obtain ⟨v,h1,h2,h3⟩:=uk I h
  exact ⟨v,Pr,h1,h2,fun _ _ _ h=>h,I.bH,h3⟩
 cases r with
 |cell g t=>exact old h
 |tmp t=>
  simp only [pG] at h
  split at h
  · rename_i f caps hl
    simp only [Option.map_eq_some_iff] at h
    obtain ⟨ps,hps,rfl⟩:=h
    obtain ⟨v,hv,vs,rfl,hlen,hcap⟩:=I.slots t _ hl
    obtain ⟨aD,fj⟩:∃aD:aC,∀b o,aD b o↔(Pr b o∨∃k off cs,Cap.bp k off∈caps∧look st.bx k=some cs∧b=bk (.bx k)):=⟨fun b o=>_,fun _ _=>Iff.rfl⟩
    have de:∀k off,Cap.bp k off∈caps→∃cs,look st.bx k=some cs:=by
     clear hcap hlen hl fj hv old
     intro k off hm
     induction caps generalizing ps with
     |nil=>simp at hm
     |cons c caps ih=>
      cases c with
      |pv p=>
       simp only [dF,Option.map_eq_some_iff] at hps
       obtain ⟨qs,hq,_⟩:=hps
       exact ih qs hq (by simpa using hm)
      |bp k2 o2=>
       simp only [dF,Option.bind_eq_some_iff,Option.map_eq_some_iff] at hps
       obtain ⟨cs,hb,qs,hq,_⟩:=hps
       rcases List.mem_cons.1 hm with e|hm
       · cases e;exact ⟨cs,hb⟩
       · exact ih qs hq hm
    refine ⟨_,aD,by simp [gw,hv], .fn (v8 I ⟨fun b o h=>(fj b o).2 (.inl h),fun _ _ _=>rfl⟩ caps vs ps hlen hcap (fun k off hm o=> ?_) hps),fun b o hlt h=> ?_,fun b o h=> ?_,fun z hz=>by simp at hz⟩
    · obtain ⟨cs,hb⟩:=de k off hm
      exact (fj _ _).2 (.inr ⟨k,off,cs,hm,hb,rfl⟩)
    · rcases (fj b o).1 h with h|⟨k,off,cs,_,hb,rfl⟩
      · exact h
      · have:=(I.own (.bx k) ⟨cs,hb⟩).1;omega
    · rcases (fj b o).1 h with h|⟨k,off,cs,_,hb,rfl⟩
      · exact I.bH b o h
      · exact (I.own (.bx k) ⟨cs,hb⟩).2
  · exact old h
theorem qJ:∀(l:List ResultVar) {st:St} {Pr:aC} {bk:Key→Nat} {ps:List PV},Inv base w Pr bk st a N→gA P st l=some ps→
  ∃vs aD,(l.mapM (gw a.tmps)).run P w= .ok vs w∧aM w aD ps vs∧Kp w Pr w aD∧(∀b o,b<base→aD b o→Pr b o)∧∀b o,aD b o→b<w.heap.size
 |[],st,Pr,bk,ps,I,h=>by
  simp only [gA,Option.some.injEq] at h;subst h
  exact ⟨[],Pr,by simp, .nil,Kp.refl _ _,fun _ _ _ h=>h,I.bH⟩
 |r::l,st,Pr,bk,ps,I,h=>by
  simp only [gA,Option.bind_eq_some_iff,Option.map_eq_some_iff] at h
  obtain ⟨rv,UO,qs,Mk,rfl⟩:=h
  obtain ⟨lJ,yS,I1,fm,fk⟩:=Eu I r
  obtain ⟨v,hv,cQ,_⟩:=uk I1 UO
  obtain ⟨vs,kV,h1,h2,h3,h4,h5⟩:=qJ l I1 Mk
  exact ⟨v::vs,kV,by simp [List.mapM_cons,hv,h1], .cons (Rp.mono h3 cQ) h2,fm.trans h3,fun b o hb h=>fk b o hb (h4 b o hb h),h5⟩
theorem Dz (fn:Func) (tmps:Array Value):results fn tmps=(do let vs ←fn.results.mapM (gw tmps);pure (if h:vs.size=1 then vs[0] else .tuple vs)):=rfl
theorem kU {fn:Func} {tmps:Array Value} {vs:List Value} (h:(fn.results.toList.mapM (gw tmps)).run P w= .ok vs w):(results fn tmps).run P w= .ok (if h:vs.length=1 then vs[0] else .tuple vs.toArray) w:=by
 rw [Dz]
 have:fn.results=fn.results.toList.toArray:=by simp
 rw [this,List.mapM_toArray]
 simp only [Sem.run_bind,Sem.run_map,h]
 simp
theorem mF:∀(l:List ResultVar) {st:St} {ps:List PV},gA P st l=some ps→l.length=ps.length
 |[],st,ps,h=>by simp only [gA,Option.some.injEq] at h;subst h;rfl
 |r::l,st,ps,h=>by
  simp only [gA,Option.bind_eq_some_iff,Option.map_eq_some_iff] at h
  obtain ⟨rv,_,qs,Mk,rfl⟩:=h
  simp [mF l Mk]
theorem sK {fn:Func} {rv:RV} (Ph:∀b o,aL b o→b<w0.heap.size) (G:Good w0.heap.size w0 aL N aT st a w) (h:jz P st fn.results.toList=some rv):∃v aD,(results fn a.tmps).run P w= .ok v w∧CD w0 aL w aD rv v:=by
 obtain ⟨Pr,bk,I,hb,hp,fW,_⟩:=G
 have join:∀aD,Kp w aD w (fun b o=>aD b o∨aL b o):=fun aD=>⟨fun _ _ h=> .inl h,fun _ _ _=>rfl⟩
 have fw:∀aD:aC,(∀b o,b<w0.heap.size→aD b o→Pr b o)→(∀b o,aD b o→b<w.heap.size)→Fw w0 aL w (fun b o=>aD b o∨aL b o):=fun aD h2 h3=>
  ⟨hb,fun b o h=> .inr h,fun b o hlt h=>h.elim (fun h=>hp b o hlt (h2 b o hlt h)) id,fun b o h=>h.elim (h3 b o) (fun h=>Nat.lt_of_lt_of_le (Ph b o h) hb.size)⟩
 unfold jz at h
 split at h
 · rename_i r hl
   obtain ⟨lJ,yS,I1,fm,fk⟩:=Eu I r
   obtain ⟨v,kV,hv,cQ,cc,hn2,dJ⟩:=A6 I1 h
   refine ⟨v,_, ?_,⟨fw kV (fun b o hlt h=>fk b o hlt (cc b o hlt h)) hn2,Rp.mono (join kV) cQ,fun z hz=> ?_⟩⟩
   · have:=kU (P:=P) (w:=w) (fn:=fn) (tmps:=a.tmps) (vs:=[v]) (by rw [hl];simp [List.mapM_cons,hv])
     simpa using this
   · obtain ⟨b,o,n,cap,cs,h1,h2,h3,h0,h4,h5⟩:=dJ z hz
     exact ⟨b,o,n,cap,cs,h1,h2,⟨h3.hz,h3.le,h3.there,fun o' ho=>ho.elim (h3.pr o') (fun h=>absurd (Ph b o' h) (by omega))⟩,h0,h4,h5⟩
 · rename_i hl
   simp only [Option.map_eq_some_iff] at h
   obtain ⟨ps,hps,rfl⟩:=h
   obtain ⟨vs,lJ,h1,h2,h3,h4,h5⟩:=qJ _ I hps
   have hlen:vs.length≠1:=by
    intro e
    have h6:=mF _ hps
    rw [h2.length,e] at h6
    obtain ⟨r,hr⟩:=List.length_eq_one_iff.1 h6
    exact hl r hr
   refine ⟨.tuple vs.toArray,_, ?_,⟨fw lJ h4 h5, .aQ (aM.mono (join lJ) h2),fun z hz=>by simp at hz⟩⟩
   have:=kU (P:=P) (w:=w) h1
   rw [this,dif_neg hlen]
end
theorem yK {P:Program} {S:Cl} {it:Nat→List PV→Option (Nat×List (List PV))} (hC:aH P S) (hI:mC P it) (hm:P.follows .mixedOrders=true) {f:Nat} {fn:Func} (hf:P.funcs[f]? =some fn) (hok:tS fn=true) {note:Nat→eL} {k:Nat} {args:List PV} {r:RV}
  (h:ug P S it (fun g=>bh g k) note fn args=some r):az P f args r:=by
 simp only [Option.bind_eq_some_iff,ug] at h
 obtain ⟨c,hc,⟨x,st'⟩,hrun,hres⟩:=h
 simp only [tS,hc,Bool.and_eq_true,Bool.not_eq_true'] at hok
 refine ⟨⟨fn,c,hf,hc,hok.2⟩,fun vs w Pr hp hr=>callsIn_wide.1 (callsIn_of_wp_marks (F:=Fence.wide) (n:=2) hf hc trivial ?_ rfl)⟩
 have I0:=qQ hp hr (fn.ntmps - vs.toArray.size)
 refine fY (base:=w.heap.size) (N:=vs.length+(fn.ntmps - vs.toArray.size)) hC hI hm note k c (cZ (by simp;omega) hok.1) Fence.wide jJ 2 w Pr ⟨fun _=>none,none⟩ (.inr ⟨rfl,rfl,by omega⟩) (fun _ _=>rfl) (St.enter args) _ w x st' ⟨Pr,_,I0,Below.refl _ _,fun _ _ _ h=>h,KO.refl _,fun k b e=>by simp at e,fun _ _ _ h1 h2=>⟨h1,h2⟩,fun _ e=>by simp at e⟩ hrun _ fun a' w' G=> ?_
 have fin:∀(hx:jz P st' fn.results.toList=some r),LeavesInM Fence.wide 2 P fn a'.tmps (fun e w'=>∃v aD,e= .returned v∧CD w Pr w' aD r v) a'.defers .returning w':=fun hx=>
  xC (st:=st') rfl rfl (fun tmps w2 G2=>by
   obtain ⟨v,aD,h1,h2⟩:=sK hp G2 hx
   exact ⟨v,h1,v,aD,rfl,h2⟩) a'.defers a'.tmps w' G
 cases x with
 |normal=>exact fin hres
 |ret=>exact fin hres
 |exit id=>simp at hres
section
variable {P:Program} {base:Nat} {w w0:World} {Pr aL:aC} {bk:Key→Nat} {aT:ef} {st st':St} {a:Act} {N:Nat}
theorem kR {b size:Nat} {lK:List PV} {jk:Nat}:∀{ms:List MA} {vs:List Value},mD w Pr b size lK jk ms vs→∀(i t:Nat) (av:AV),look (m5 i ms) t=some av→
  ∃j v,t=i+j∧vs[j]? =some v∧((∃p,av= .pv p∧Rp w Pr p v)∨(∃off n,av= .bs gk off jk n∧Br b size lK off jk n v))
 |_,_, .nil,i,t,av,h=>by simp [m5,look] at h
 |_,_, .p (p:=p) (v:=v) hr hs,i,t,av,h=>by
  simp only [m5,look] at h
  split at h
  · rename_i e;simp only [Option.some.injEq] at h;exact ⟨0,v,by omega,rfl, .inl ⟨p,h.symm,hr⟩⟩
  · obtain ⟨j,u,h1,h2,h3⟩:=kR hs (i+1) t av h
    exact ⟨j+1,u,by omega,by simpa using h2,h3⟩
 |_,_, .g (off:=off) (n:=n) (v:=v) hr hs,i,t,av,h=>by
  simp only [m5,look] at h
  split at h
  · rename_i e;simp only [Option.some.injEq] at h;exact ⟨0,v,by omega,rfl, .inr ⟨off,n,h.symm,hr⟩⟩
  · obtain ⟨j,u,h1,h2,h3⟩:=kR hs (i+1) t av h
    exact ⟨j+1,u,by omega,by simpa using h2,h3⟩
def guarded (w:World) (b:Nat):aC:=fun b' _=>b'≠b∧b'<w.heap.size
theorem CQ {b:Nat} {T:TypeId} {c:Array Value} {cs:List PV} {sz:Nat} {ms:List MA} {vs:List Value} (xx:di ms=some cs) (hp:∀b o,Pr b o→b<w.heap.size) (hG:CB w Pr b T c cs) (hma:mD w Pr b c.size cs sz ms vs) (k:Nat):
  Inv 0 w (guarded w b) (fun _=>b) (St.fI ms) { tmps:=vs.toArray++Array.replicate k undef,defers:=[]} (vs.length+k):=by
 have pQ:b<w.heap.size:=(Array.getElem?_eq_some_iff.1 hG.qy).1
 have hkp:Kp w Pr w (guarded w b):=⟨fun b' o h=>⟨fun e=>hG.free o (e ▸h),hp b' o h⟩,fun _ _ _=>rfl⟩
 have de:∀j dG,look (St.fI ms).bx j=some dG→j=gk∧dG=cs:=by
  intro j dG h
  simp only [St.fI,xx,look] at h
  split at h
  · rename_i e;simp only [Option.some.injEq] at h;exact ⟨e.symm,h.symm⟩
  · simp at h
 have Uc:look (St.fI ms).bx gk=some cs:=by simp [St.fI,xx,look]
 have hlv:∀x,live (St.fI ms) x→x= .bx gk:=by
  intro x hx
  cases x with
  |bx j=>obtain ⟨dG,h⟩:=hx;rw [(de j dG h).1]
  |sx t=>
   rcases hx with ⟨sz',n,cs',h⟩|⟨z,h⟩
   · obtain ⟨j,v,_,_,⟨p,e,_⟩|⟨off,n,e,_⟩⟩:=kR hma 0 t _ h<;>simp at e
   · simp [St.fI,aG] at h
  |cx j o=>obtain ⟨z,h⟩:=hx;simp [St.fI,aG] at h
 constructor
 · simp
 · exact ⟨by simp,List.nodup_nil⟩
 · exact Nat.zero_le _
 · exact fun b' o h=>h.2
 · intro t av ht
   obtain ⟨j,v,h1,h2,h3⟩:=kR hma 0 t av ht
   have hj:j<vs.length:=(List.getElem?_eq_some_iff.1 h2).1
   obtain rfl:t=j:=by omega
   refine ⟨v,by rw [Array.getElem?_append_left (by simpa using hj)];simpa using h2, ?_⟩
   rcases h3 with ⟨p,rfl,hr⟩|⟨off,n,rfl,o,cap,e1,e2,e3,e4,e5,e6⟩
   · exact Rp.mono hkp hr
   · exact ⟨o,cap,cs,c,T,e1,e2,Uc,e3,e4,e5,hG.qy,e6⟩
 · exact fun x hx=>⟨Nat.zero_le _,pQ⟩
 · exact fun x y hx hy _=>by rw [hlv x hx,hlv y hy]
 · intro j dG h
   obtain ⟨rfl,rfl⟩:=de j dG h
   obtain ⟨us,h1,h2,h3⟩:=hG.pre
   exact ⟨⟨T,c,us,hG.qy,h1,aM.mono hkp h2,h3⟩,fun o h=>h.1 rfl⟩
 · intro t z h;simp [St.fI,aG] at h
 · intro j i z h;simp [St.fI,aG] at h
 · intro t q h;simp [St.fI,look] at h
theorem xO {p:PV} {v:Value} (h:j7 p=true) (k:Rp w Pr p v) {w':World} {aD:aC}:Rp w' aD p v:=by
 unfold j7 at h
 split at h
 · cases k with|aQ hr=>cases hr;exact .aQ .nil
 · obtain ⟨u,hu⟩:=Option.isSome_iff_exists.1 h
   exact yc hu k
theorem s8 (I:Inv base w Pr bk st a N):∀{l:List ResultVar} {ps:List PV},kH st l=some ps→∃us,(l.mapM (gw a.tmps)).run P w= .ok us w∧(∀{w':World} {aD:aC},aM w' aD ps us)∧l.length=us.length
 |[],ps,h=>by simp only [kH,Option.some.injEq] at h;subst h;exact ⟨[],by simp, .nil,rfl⟩
 | .cell _ _::l,ps,h=>by simp [kH] at h
 | .tmp t::l,ps,h=>by
   simp only [kH] at h
   split at h
   · rename_i p hl
     split at h
     · rename_i oN
       simp only [Option.map_eq_some_iff] at h
       obtain ⟨qs,hq,rfl⟩:=h
       obtain ⟨us,h1,h2,h3⟩:=s8 I hq
       obtain ⟨v,hv,hr⟩:=I.slots t _ hl
       exact ⟨v::us,by simp [List.mapM_cons,gw,hv,h1], .cons (xO oN hr) h2,by simp [h3]⟩
     · simp at h
   · simp at h
theorem Ku {fn:Func} {r:MR} {cs':List PV} (I:Inv base w Pr bk st a N) (hcs:look st.bx gk=some cs') {c':Array Value} {T:TypeId} (hb:w.heap[bk (.bx gk)]? =some (.cells c' T (0,0))) {sz:Nat} (h:tR st sz fn.results.toList=some r):
  ∃v,(results fn a.tmps).run P w= .ok v w∧∀{w':World} {aD:aC},K5 w' aD (bk (.bx gk)) c'.size cs' sz r v:=by
 have EH:∀{off n u},gH st w bk gk off sz n u→Br (bk (.bx gk)) c'.size cs' off sz n u:=fun {off n u} h=>by
  obtain ⟨o,cap,dG,c2,T2,e1,e2,e3,e4,e5,e6,e7,e8⟩:=h
  rw [hcs] at e3;cases e3
  rw [hb] at e7;cases e7
  exact ⟨o,cap,e1,e2,e4,e5,e6,e8⟩
 unfold tR at h
 split at h
 · rename_i he
   simp only [Option.some.injEq] at h;subst h
   have:fn.results= #[]:=Array.ext' (by simpa using he)
   exact ⟨_,results_none this _ _ _, .aQ .nil⟩
 · rename_i t he
   have hrun:∀v,a.tmps[t]? =some v→(results fn a.tmps).run P w= .ok v w:=fun v hv=>by
    have:=kU (P:=P) (w:=w) (fn:=fn) (tmps:=a.tmps) (vs:=[v]) (by rw [he];simp [List.mapM_cons,gw,hv])
    simpa using this
   split at h
   · rename_i p hl
     split at h
     · rename_i oN
       simp only [Option.some.injEq] at h;subst h
       obtain ⟨v,hv,hr⟩:=I.slots t _ hl
       exact ⟨v,hrun v hv,xO oN hr⟩
     · simp at h
   · rename_i k off s n hl
     split at h
     · rename_i hk
       obtain ⟨rfl,rfl⟩:=hk
       simp only [Option.some.injEq] at h;subst h
       obtain ⟨v,hv,hr⟩:=I.slots t _ hl
       exact ⟨v,hrun v hv,EH hr⟩
     · simp at h
   · simp at h
 · rename_i t l hne he
   split at h
   · rename_i k off s n hl
     split at h
     · rename_i hk
       obtain ⟨rfl,rfl⟩:=hk
       simp only [Option.map_eq_some_iff] at h
       obtain ⟨ps,hps,rfl⟩:=h
       obtain ⟨v,hv,hr⟩:=I.slots t _ hl
       obtain ⟨us,h1,h2,h3⟩:=s8 (P:=P) I hps
       have hlen:(v::us).length≠1:=by
        intro e
        have:l=[]:=by
         have:us.length=0:=by simpa using e
         exact List.length_eq_zero_iff.1 (by omega)
        exact hne this
       have:=kU (P:=P) (w:=w) (fn:=fn) (tmps:=a.tmps) (vs:=v::us) (by rw [he];simp [List.mapM_cons,gw,hv,h1])
       rw [dif_neg hlen] at this
       exact ⟨_,this,v,us,rfl,EH hr,h2⟩
     · simp at h
   · simp at h
 · simp at h
end
theorem uI {w:World} {Pr:aC} {b size:Nat} {lK:List PV} {jk:Nat}:∀{ms:List MA} {vs:List Value} {cs:List PV},mD w Pr b size lK jk ms vs→di ms=some cs→jK ms=jk
 |_,_,_, .nil,h=>by simp [di] at h
 |_,_,_, .p _ hs,h=>by
  simp only [jK]
  exact uI hs (by simpa [di] using h)
 |_,_,_, .g _ _,h=>rfl
theorem G8 {c:Code} {k:Nat} (h:(dstsOf c).all (fun d=>d !=k)=true):∀d∈dstsOf c,d≠k:=fun d hd=>by
 have:=List.all_eq_true.1 h d hd
 simpa using this
theorem z7 {P:Program} {S:Cl} {it:Nat→List PV→Option (Nat×List (List PV))} (hC:aH P S) (hI:mC P it) (hm:P.follows .mixedOrders=true) {f:Nat} {fn:Func} (hf:P.funcs[f]? =some fn) (hok:tS fn=true) {note:Nat→eL} {k:Nat} {ms:List MA} {r:MR} {cs':List PV}
  (h:qH P S it (fun g=>bh g k) note fn ms=some (r,cs')):iV P f ms r cs':=by
 simp only [qH,Option.bind_eq_some_iff] at h
 obtain ⟨c,hc,h⟩:=h
 split at h
 · rename_i hfl
   simp only [Bool.and_eq_true] at hfl
   simp only [Option.bind_eq_some_iff] at h
   obtain ⟨⟨x,st'⟩,hrun,h⟩:=h
   simp only [tS,hc,Bool.and_eq_true,Bool.not_eq_true'] at hok
   refine ⟨⟨fn,c,hf,hc,hok.2⟩,fun cs sz vs w Pr b T c0 xx hp hG hma=>callsIn_wide.1 (callsIn_of_wp (F:=Fence.wide) (n:=2) hf hc trivial ?_ rfl)⟩
   have I0:=CQ xx hp hG hma (fn.ntmps - vs.toArray.size)
   have pQ:b<w.heap.size:=(Array.getElem?_eq_some_iff.1 hG.qy).1
   refine fY (base:=0) (N:=vs.length+(fn.ntmps - vs.toArray.size)) hC hI hm note k c (cZ (by simp;omega) hok.1) Fence.wide jJ 2 w (guarded w b) ⟨fun j=>if j=gk then some b else none,some []⟩ (.inl hfl.1)
    (fun d hd=>if_neg (G8 hfl.2 d hd)) (St.fI ms) _ w x st' ⟨guarded w b,_,I0,Below.refl _ _,fun _ _ _ h=>h,KO.refl _,fun j b' e=>by simp only at e;split at e<;>simp_all,fun _ _ _ h1 h2=>⟨h1,h2⟩,fun ds e=>by simpa using e⟩ hrun _ fun a' w' G=> ?_
   have fin:((tR st' (jK ms) fn.results.toList).bind fun r=>(look st'.bx gk).bind fun cs'=>(di ms).bind fun cs=>if cs'.all cH=true∧cs'.length=cs.length then some (r,cs') else none)=some (r,cs')→
     a'.defers=[]∧∃v,(results fn a'.tmps).run P w'= .ok v w'∧∃v',Ending.returned v= .returned v'∧K4 w Pr w' b T c0 sz cs r cs' v':=fun h=>by
    simp only [Option.bind_eq_some_iff] at h
    obtain ⟨r1,gm,uw,LP,dG,LQ,h⟩:=h
    split at h
    · rename_i gN
      simp only [Option.some.injEq,Prod.mk.injEq] at h
      obtain ⟨rfl,rfl⟩:=h
      rw [xx] at LQ;cases LQ
      obtain ⟨Yg,bk,I,iE,Yt,fW,C7,hkc,hdf⟩:=G
      have hbk:bk (.bx gk)=b:=C7 gk b (by simp)
      obtain ⟨⟨T2,c2,us,e1,e0,e2,e3⟩,e4⟩:=I.boxes gk uw LP
      obtain ⟨c3,e5,e6⟩:=fW.sized b c0 T _ hG.qy
      rw [hbk,e5] at e1;cases e1
      rw [uI hma xx] at gm
      obtain ⟨v,cR,eJ⟩:=Ku (P:=P) I LP (by rw [hbk];exact e5) gm
      refine ⟨hdf [] rfl,v,cR,v,rfl,iE.os,iE.tape,iE.output,iE.size,fun j hj Uv=> ?_,⟨_,⟨e5,⟨us,e0,pU gN.1 e2,e3⟩,hG.free⟩,e6⟩,gN.2, ?_⟩
      · cases ho:w.heap[j]? with
        |none=>rw [Array.getElem?_eq_getElem hj] at ho;simp at ho
        |some o=>
         cases Pe:o.isCells with
         |false=>exact fW.same j o ho Pe
         |true=>
          cases o with
          |cells c4 T4 fz=>
           obtain ⟨c5,e7,e8⟩:=fW.sized j c4 T4 fz ho
           rw [e7]
           congr 2
           apply Array.ext_getElem?
           intro i
           by_cases hi:i<c4.size
           · have h1:w.cell? ⟨j,i,none⟩=some c4[i]:=by
               simp [World.cell?,ho,hi]
             have h2:=(hkc j i _ ⟨Uv,hj⟩ h1).2
             rw [Array.getElem?_eq_getElem hi,←h2]
             simp [World.cell?,e7]
           · rw [Array.getElem?_eq_none (by omega),Array.getElem?_eq_none (by omega)]
          |_=>simp [Obj.isCells] at Pe
      · rw [←hbk,←e6];exact eJ
    · simp at h
   cases x with
   |normal=>exact fin h
   |ret=>exact fin h
   |exit id=>simp at h
 · simp at h
structure qE (M:jy):Prop where
 jo:M.P.follows .mixedOrders=true
 kQ:mC M.P M.iter
 fns:∀(f:Nat) (fn:Func),M.P.funcs[f]? =some fn→M.tU f=none→tS fn=true
 Jt:∀(f:Nat) (g:(Nat→List PV→Option RV)→List PV→Option RV),M.tU f=some g→∀call,(∀f args r,call f args=some r→az M.P f args r)→∀args r,g call args=some r→az M.P f args r
theorem aH.with {P:Program} {C:Cl} (h:aH P C) (ex:Nat→Nat→Bool) (im:Nat→Bool):aH P { C with ex:=ex,im:=im}:=⟨h.fn,h.mu⟩
theorem DX {M:jy} (hM:qE M):∀n,aH M.P (acl M n)
 |0=>⟨fun f args r h=>by simp [acl] at h,fun f ms r cs' h=>by simp [acl] at h⟩
 |n+1=>by
  have ih:=DX hM n
  refine ⟨fun f args r h=> ?_,fun f ms r cs' h=> ?_⟩
  · simp only [acl] at h
    split at h
    · rename_i g hg
      exact hM.Jt f g hg _ ih.fn args r h
    · rename_i hg
      rw [Option.bind_eq_some_iff] at h
      obtain ⟨fn,hfn,h⟩:=h
      exact yK (ih.with _ _) hM.kQ hM.jo hfn (hM.fns f fn hfn hg) h
  · simp only [acl] at h
    split at h
    · simp at h
    · rename_i hg
      rw [Option.bind_eq_some_iff] at h
      obtain ⟨fn,hfn,h⟩:=h
      exact z7 (ih.with _ _) hM.kQ hM.jo hfn (hM.fns f fn hfn hg) h
theorem Gz {M:jy} (hM:qE M) (n f:Nat) (args:List PV) (r:RV) (h:IN M n f args=some r):az M.P f args r:=(DX hM n).fn f args r h
end Go.Proofs.YtibbgjafjhcemaaGreatDoor.Cul
namespace Go.Proofs.YtibbgjafjhcemaaGreatDoor.Cul
open Go Go.RowKit
def cM:List Prop→Prop
 |[]=>True
 |p::l=>p∧cM l
theorem cM.app:∀{l m:List Prop},cM (l++m)→cM l∧cM m
 |[],_,h=>⟨trivial,h⟩
 |_::_,_,h=>⟨⟨h.1,(cM.app h.2).1⟩,(cM.app h.2).2⟩
inductive El where
 |c (b:Bool)
 |r (x:RV)
 |l (x:Xt) (s:St)
 |u (n:Nat)
 |v (d:Nat) (m:Made)
 |e (d:Nat) (p:PV)
 |i (d:Nat) (x:Int)
 |t (d n:Nat) (cs:List PV)
 |o (d off n:Nat)
 |f (cs:List PV)
 |g (b:Bool)
 |p (n:Nat) (cs:List PV)
 |w (d:Nat) (str:ByteArray)
 |a (d:Nat) (cs:List PV)
 |j (d i:Nat)
 |s (cs:List PV)
 |m (r:MR) (cs:List PV)
def N6:BinOp→Bool
 | .eql| .neq| .lss| .leq| .gtr| .geq=>true
 |_=>false
abbrev Ow (α:Type):=α×List El×List Prop
def ja (s:ByteArray) (n:Int):Option Int:=(if 0≤n then s[n.toNat]? else none).map fun b=>(b.toNat:Int)
abbrev Ld (P:Program) (t:TypeId) (cs:List PV) (o:Nat) (p:PV):Prop:=ek P t cs o=some p
abbrev cF (cs:List PV) (a n:Nat) (cs':List PV):Prop:=(cs.drop a).take n=cs'
abbrev bZ (cs:List PV) (off:Nat) (new cs':List PV):Prop:=splice cs off new=cs'
abbrev aa (call:Cl) (f:Nat) (fU:List PV) (rv:RV):Prop:=call.fn f fU=some rv
abbrev ey (call:Cl) (f:Nat) (ms:List MA) (r:MR) (cs:List PV):Prop:=call.mu f ms=some (r,cs)
abbrev yG (P:Program) (call:Cl) (it:Nat→List PV→Option (Nat×List (List PV))) (k:Nat) (note:Nat→eL) (c:Code) (st:St) (x:Xt) (s1:St):Prop:=bh (cV P call it (fun g=>bh g k) note c) k st=some (x,s1)
abbrev eu (str:ByteArray) (n b:Int):Prop:=ja str n=some b
abbrev aK (cs:List PV) (sz:Nat) (n:Int) (len:Nat) (cs':List PV):Prop:=(0≤n∧n<len)∧row cs sz n.toNat=cs'
abbrev aJ (n:Int) (len i:Nat):Prop:=n=(i:Int)∧i<len
abbrev fC (z:List PV) (n:Nat) (cs:List PV):Prop:=bl z n=cs
abbrev CE (P:Program) (t:TypeId) (str:ByteArray) (lo hi:Option Value) (s':ByteArray):Prop:=cK P (Instr.sliceAt t (.string str) lo hi none)=some (.lit (.string s'))
abbrev jv (cs:List PV) (s':ByteArray):Prop:=(bytesOf cs).map (fun l=>ByteArray.mk l.toArray)=some s'
abbrev IK (n1 n2:Nat) (c1 c2:List PV) (bytes s m:Nat) (cs':List PV):Prop:=(n1+n2=m∧c1++c2=cs')∧(m* bytes≤room∧m≤room)∧c2.length=n2* s∧c1.length=n1* s
abbrev jx (P:Program) (op:BinOp) (t:TypeId) (x y:Operand) (a b':Value) (b:Bool):Prop:=cK P (do eqGuard op t x y a b';binOp op t a b')=some (.lit (.bool b))
def yR (op:BinOp) (a b:Value):Option (Value×List Prop):=
 match op,a,b with
 | .shl, .int k x, .int _ y=>some (.int k (k.wrap (x* 2^min y.toNat k.bits)),[decide (y<0)=false])
 | .shr, .int k x, .int _ y=>some (.int k (x.fdiv (2^min y.toNat k.bits)),[decide (y<0)=false])
 | .quo, .int k x, .int k' y=>if k=k' then some (.int k (k.wrap (x.tdiv y)),[decide (y=0)=false]) else none
 | .rem, .int k x, .int k' y=>if k=k' then some (.int k (x.tmod y),[decide (y=0)=false]) else none
 |_,_,_=>none
def zQ (P:Program) (t:TypeId):Bool:=match P.underlying t with|some .string=>true|_=>false
theorem E2 {P:Program} {t:TypeId} (h:zQ P t=true):P.underlying t=some .string:=by
 unfold zQ at h;split at h<;>first|assumption|cases h
def oY (P:Program) (call:Cl) (o:Oper) (st:St) (s:List El):Option (Ow Made):=
 match o.op with
 | .binOp op t x y _=>if N6 op then match s with
  | .c b::s'=>(st.val x).bind fun a=>(st.val y).bind fun b'=>match cK P (do eqGuard op t x y a b';binOp op t a b') with
    |some (.lit (.bool c))=>some ({ v:= .pv (.lit (.bool b))},s',[c=b])
    |_=>none
  | .g b::s'=>(st.val x).bind fun a=>(st.val y).bind fun b'=>some ({ v:= .pv (.lit (.bool b))},s',[jx P op t x y a b' b])
  |_=>none else match (st.val x).bind fun a=>(st.val y).bind fun b=>yR op a b with
  |some (v,ob)=>some ({ v:= .pv (.lit v)},s,ob)
  |none=>(quiet P call o st).map fun m=>(m,s,[])
 | .index t x i=>match s,st.pv x with
   | .i d b::s',some (.lit (.string str))=>if o.dst=some d∧zQ P t=true then ((st.pv i).bind cg).map fun n=>({ v:= .pv (.lit (.int .u8 b))},s',[eu str n b]) else none
   | .e d p::s',some (.ag cs)=>if o.dst=some d then match P.underlying t with
     |some (.array len e)=>((st.pv i).bind cg).bind fun n=>(bT P e).bind fun z=>some ({ v:= .pv p},s',[0≤n∧n<len,Ld P e cs (n.toNat* z) p])
     |_=>none else (quiet P call o st).map fun m=>(m,s,[])
   |_,_=>(quiet P call o st).map fun m=>(m,s,[])
 | .indexAddr t x i=>((st.pv i).bind cg).bind fun n=>match P.underlying t with
   |some (.slice e)=>(bT P e).bind fun z=>match st.ev x with
    |some (.pv (.sl sz len cs))=>if sz=z then (match s with
     | .a d cs'::s'=>if o.dst=some d then some ({ v:= .pv (.el cs')},s',[aK cs sz n len cs']) else none
     |_=>some ({ v:= .pv (.el (row cs sz n.toNat))},s,[0≤n∧n<len])) else none
    |some (.xr u)=>match look st.sl u with
     |some (.ex sz len cs)=>if sz=z then some ({ v:= .xe u (n.toNat* sz)},s,[0≤n∧n<len]) else none
     |_=>none
    |some (.bs k off sz len)=>if sz=z then (match s with
     | .j d i::s'=>if o.dst=some d then some ({ v:= .bp k (off+i* sz)},s',[aJ n len i]) else none
     |_=>some ({ v:= .bp k (off+n.toNat* sz)},s,[0≤n∧n<len])) else none
    |_=>none
   |some (.array len e)=>match s,st.ev x with
    | .j d i::s',some (.bp k off)=>if o.dst=some d then (bT P e).bind fun z=>some ({ v:= .bp k (off+i* z)},s',[aJ n len i]) else (quiet P call o st).map fun m=>(m,s,[])
    |_,_=>(quiet P call o st).map fun m=>(m,s,[])
   |_=>(quiet P call o st).map fun m=>(m,s,[])
 | .load t x=>match s with
   | .e d p::s'=>if o.dst=some d then match st.ev x with
     |some (.bp k o)=>(look st.bx k).map fun cs=>({ v:= .pv p,tg:=if !ep P t&&(aG st.gr (.c k o)).isSome then some (.c k o) else none},s',[Ld P t cs o p])
     |some (.pv (.el cs))=>some ({ v:= .pv p},s',[Ld P t cs 0 p])
     |_=>none else (quiet P call o st).map fun m=>(m,s,[])
   |_=>(quiet P call o st).map fun m=>(m,s,[])
 | .slice t x lo hi mx=>match st.ev x with
   |some (.bs k off sz n)=>match P.underlying t,mx with
    |some (.slice e),none=>if bT P e=some sz then
     (match hi with|none=>some (n:Int)|some y=>(st.pv y).bind cg).bind fun h=>
     (match lo with|none=>some (0:Int)|some y=>(st.pv y).bind cg).bind fun l=>
     match s with
     | .o d off' n'::s'=>if o.dst=some d then some ({ v:= .bs k off' sz n'},s',[0≤l∧l≤h∧h≤n,off+l.toNat* sz=off',h.toNat - l.toNat=n']) else none
     |_=>some ({ v:= .bs k (off+l.toNat* sz) sz (h.toNat - l.toNat)},s,[0≤l∧l≤h∧h≤n]) else none
    |_,_=>none
   |some (.pv (.sl sz n cs))=>match P.underlying t,mx with
    |some (.slice e),none=>if bT P e=some sz then
     (match hi with|none=>some (n:Int)|some y=>(st.pv y).bind cg).bind fun h=>
     (match lo with|none=>some (0:Int)|some y=>(st.pv y).bind cg).bind fun l=>
     match s with
     | .t d n' cs'::s'=>if o.dst=some d then some ({ v:= .pv (.sl sz n' cs')},s',[0≤l∧l≤h∧h≤n,h.toNat - l.toNat=n',cF cs (l.toNat* sz) ((h.toNat - l.toNat)* sz) cs']) else none
     |_=>some ({ v:= .pv (.sl sz (h.toNat - l.toNat) ((cs.drop (l.toNat* sz)).take ((h.toNat - l.toNat)* sz)))},s,[0≤l∧l≤h∧h≤n]) else none
    |_,_=>none
   |_=>(quiet P call o st).map fun m=>(m,s,[])
 | .call { callee:= .value g,args, .. }=>match s with
   | .r rv::s'=>match st.ev g with
     |some v=>(st.eG v).bind fun p=>match p with
      | .fn f caps=>(eo st args.toList).bind fun fU=>
        if bY v||args.toList.any (fun x=>((st.ev x).map bY).getD true) then (if j7 rv.v then some ({ v:= .pv rv.v},s',[aa call f (fU++caps) rv]) else none)
        else some ({ v:= .pv rv.v,gr:=rv.gr},s',[aa call f (fU++caps) rv])
      |_=>none
     |none=>none
   |_=>none
 |_=>(quiet P call o st).map fun m=>(m,s,[])
def oW (P:Program) (call:Cl) (o:Oper) (st:St) (s:List El):Option (Ow Made):=
 match s,o.dst,o.op with
 |_,_, .index .. =>oY P call o st s
 | .i d x::s',some d',_=>if d=d' then (oY P call o st s').bind fun r=>match r.1.v with
  | .pv (.lit (.int k y))=>some ({ r.1 with v:= .pv (.lit (.int k x))},r.2.1,(y=x)::r.2.2)
  |_=>none else oY P call o st s
 |_,_,_=>oY P call o st s
def rD (st:St):Option Operand→Option (Option Value)
 |none=>some none
 |some x=>(st.val x).map some
def Ay (P:Program) (call:Cl) (o:Oper) (st:St) (s:List El):Option (Ow Made):=
 match s,o.dst,o.op with
 | .w d s'::r,some d', .slice t x lo hi none=>if d=d' then match st.ev x with
  |some (.pv (.lit (.string str)))=>(rD st lo).bind fun l=>(rD st hi).bind fun h=>some ({ v:= .pv (.lit (.string s'))},r,[CE P t str l h s'])
  |_=>none else oW P call o st s
 | .w d s'::r,some d', .convert src dst x=>if d=d' then match st.pv x,P.underlying src,P.underlying dst with
  |some (.sl 1 n cs),some (.slice e),some .string=>match P.underlying e with
   |some (.int .u8)=>some ({ v:= .pv (.lit (.string s'))},r,[jv cs s'])
   |_=>none
  |_,_,_=>none else oW P call o st s
 |_,_,_=>oW P call o st s
def oX (P:Program) (call:Cl) (o:Oper) (st:St) (s:List El):Option (Ow Made):=
 match s,o.dst with
 | .v d m::s',some d'=>if d=d' then some (m,s',[quiet P call o st=some m]) else oW P call o st s
 |_,_=>Ay P call o st s
def oD (P:Program) (o:Oper) (st:St) (sc:List El):Option (Ow St):=
 match o.op with
 | .store t a x=>match st.ev a with
   |some (.xe u off)=>if o.dst=none then match look st.sl u,st.pv x with
    |some (.ex sz n cs),some p=>if some p.cells.length=bT P t∧fX p=false then some ({ st with sl:=(u, .ex sz n (splice cs off p.cells))::bF st.sl u},sc,[off+p.cells.length≤cs.length]) else none
    |_,_=>none else none
   |some (.bp k off)=>match sc with
    | .s cs'::eK=>if o.dst=none then match x,st.ev x,look st.bx k with
      | .tmp u,some (.pv p),some cs=>if some p.cells.length=bT P t∧fX p=false∧(aG st.gr (.s u)).isNone=true then some ({ st with bx:=(k,cs')::bF st.bx k,gr:=st.gr.filter (fun x=>x.1.out k off p.cells.length),tg:=st.tg.map (mh k off p.cells.length)},eK,[off+p.cells.length≤cs.length,bZ cs off p.cells cs']) else none
      | .const _,some (.pv p),some cs=>if some p.cells.length=bT P t∧fX p=false then some ({ st with bx:=(k,cs')::bF st.bx k,gr:=st.gr.filter (fun x=>x.1.out k off p.cells.length),tg:=st.tg.map (mh k off p.cells.length)},eK,[off+p.cells.length≤cs.length,bZ cs off p.cells cs']) else none
      |_,_,_=>none else none
    |_=>(effect P o st).map fun m=>(m,sc,[])
   |_=>(effect P o st).map fun m=>(m,sc,[])
 | .makeSlice t l c=>match sc with
   | .c b::eK=>o.dst.bind fun d=>match P.underlying t,(st.pv l).bind cg,(st.pv c).bind cg with
     |some (.slice e),some n,some m=>(bT P e).bind fun s=>(ju P e).bind fun z=>
      if z.cells.length=s∧0<s then
       (match b,eK with
        |false, .f cs0::JF=>(st.dj d cs0 (.bs d 0 s n.toNat)).map fun s'=>(s',JF,[0≤n∧n≤m∧m* P.bytesOf e≤room∧m≤room,decide (n=0)=false,fC z.cells n.toNat cs0])
        |_,_=>(if b then some (st.made (some d) { v:= .pv (.sl s 0 []),gr:=some s}) else st.dj d (bl z.cells n.toNat) (.bs d 0 s n.toNat)).map fun s'=>(s',eK,[0≤n∧n≤m∧m* P.bytesOf e≤room∧m≤room,decide (n=0)=b])) else none
     |_,_,_=>none
   |_=>none
 | .call { callee:= .builtin .append,args,argTypes}=>o.dst.bind fun d=>match args.toList,argTypes.toList with
   |[x,y],[T,U]=>match P.underlying T,P.underlying U with
    |some (.slice e),some (.slice _)=>(bT P e).bind fun s=>(ju P e).bind fun z=>(st.pv x).bind fun p=>(qw p).bind fun v=>((st.pv y).bind qw).bind fun u=>
     if 0<s∧z.cells.length=s then
      match p with
      | .lit _=>match sc with
        | .c b::eK=>some (if b then st.put (some d) (.pv p) else st.made (some d) { v:= .pv (.sl s u.1 u.2),gr:=some s},eK,[(v.1+u.1)* P.bytesOf e≤room∧v.1+u.1≤room,u.2.length=u.1* s∧v.2.length=v.1* s,decide (u.1=0)=b])
        |_=>none
      |_=>match x with
       | .tmp t=>
         (if aG st.gr (.s t)=some s then some (Pl.s t) else match st.tag t with|some q=>if aG st.gr q=some s then some q else none|none=>none).map fun q=>
          match sc with
          | .p m cs'::eK=>(({ st with gr:=st.gr.filter (fun x=>x.1≠q),tg:=st.tg.map (fL q)}:St).made (some d) { v:= .pv (.sl s m cs'),gr:=some s},eK,[IK v.1 u.1 v.2 u.2 (P.bytesOf e) s m cs'])
          |_=>(({ st with gr:=st.gr.filter (fun x=>x.1≠q),tg:=st.tg.map (fL q)}:St).made (some d) { v:= .pv (.sl s (v.1+u.1) (v.2++u.2)),gr:=some s},sc,[(v.1+u.1)* P.bytesOf e≤room∧v.1+u.1≤room,u.2.length=u.1* s∧v.2.length=v.1* s])
       |_=>none
     else none
    |_,_=>none
   |_,_=>none
 |_=>(effect P o st).map fun m=>(m,sc,[])
def Aa (call:Cl) (o:Oper) (st:St) (f:Nat) (vs:List AV) (s:List El):Option (Ow St):=
 match s with
 | .m r cs::s'=>(gj vs).bind fun g=>(nM st vs).bind fun ms=>if MU r then some ((st.cX g.1 cs).put o.dst (wS g.1 g.2 r),s',[ey call f ms r cs]) else none
 |_=>none
def BG (call:Cl) (o:Oper) (st:St) (s:List El):Option (Ow St):=
 match s with
 | .r rv::s'=>match o.op with
   | .call { callee:= .value g,args, .. }=>match st.ev g with
     |some (.pv (.fn f caps))=>if args.toList.any (fun x=>((st.ev x).map bY).getD true) then none else
      (eo st args.toList).bind fun fU=>o.dst.bind fun d=>match rv.v,rv.gr with
       | .sl sz n cs,some z=>if z=sz then (st.dj d cs (.bs d 0 sz n)).map fun s2=>(s2,s',[aa call f (fU++caps) rv,cs.all cH=true]) else none
       |_,_=>none
     |_=>none
   |_=>none
 |_=>none
def CJ (P:Program) (call:Cl) (o:Oper) (st:St) (s:List El):Option (Ow St):=
 match kz st o with
 |some (f,vs)=>if call.im f then Aa call o st f vs s else if call.ex f (o.dst.getD 0) then BG call o st s else if gZ o.op then (oX P call o st s).map fun x=>(st.made o.dst x.1,x.2) else oD P o st s
 |none=>if gZ o.op then (oX P call o st s).map fun x=>(st.made o.dst x.1,x.2) else oD P o st s
def pE (P:Program) (call:Cl) (ops:List Oper):List Oper→St→List El→Option (Ow St)
 |[],st,s=>some (st,s,[])
 |o::l,st,s=>(dZ ops o st).bind fun
  |true=>(CJ P call o st s).bind fun y=>(pE P call ops l y.1 y.2.1).map fun z=>(z.1,z.2.1,y.2.2++z.2.2)
  |false=>pE P call ops l (st.put o.dst fA) s
def wo (call:Cl) (o:Oper) (st:St) (s:List El):Option (Ow Made):=
 match s with
 | .r rv::s'=>match o.op with
   | .call { callee:= .value (.func f),args, .. }=>if args.toList.any (fun x=>((st.ev x).map bY).getD true) then none else
     (eo st args.toList).bind fun fU=>match rv.v,rv.gr with
      | .sl sz n cs,some z=>if z=sz then some ({ v:= .bV cs (some (sz,n))},s',[aa call f fU rv,cs.all cH=true]) else none
      |_,_=>none
   |_=>none
 |_=>none
def wR (P:Program) (call:Cl) (o:Oper) (st:St) (s:List El):Option (Ow Made):=
 if BH call o then wo call o st s else match o.op with
 | .assign _| .alloc _=>(eS P call o st).map fun m=>(m,s,[])
 |_=>(oX P call o st s).bind fun x=>if jC x.1.v then none else some ({ x.1 with gr:=none},x.2)
def oC (P:Program) (call:Cl) (ops:List Oper):List Oper→St→List El→Option (Ow St)
 |[],st,s=>some (st,s,[])
 |o::l,st,s=>(dZ ops o st).bind fun
  |true=>(wR P call o st s).bind fun y=>(oC P call ops l (st.gu o.dst y.1) y.2.1).map fun z=>(z.1,z.2.1,y.2.2++z.2.2)
  |false=>oC P call ops l (st.gu o.dst { v:=fA}) s
def tG (P:Program) (call:Cl) (ops:List Oper) (draw:Bool) (st:St) (s:List El):Option (Ow St):=
 if draw then
  let n:=uL call ops
  if ((ops.take n).all (pN st)&&zw call ops n&&(!DP ops||mj (vo ops) ops.toArray))=true then (oC P call ops (ops.take n) st s).bind fun x=>(x.1.settle (ops.take n)).bind fun s'=>(pE P call ops (ops.drop n) s' x.2.1).map fun y=>(y.1,y.2.1,x.2.2++y.2.2) else none
 else pE P call ops ops st s
def eZ (g:Bool) (st:St) (t:Nat) (sc:List El):Ow St:=
 match look st.sl t,sc with
 |some (.bs k off sz n), .f cs'::eK=>match look st.bx k with
  |some cs=>((st.ec t k).made (some t) { v:= .pv (.sl sz n cs'),gr:=wD g off sz},eK,[cF cs off (n* sz) cs'])
  |none=>(st.fO g t,sc,[])
 |_,_=>(st.fO g t,sc,[])
def gX:List Nat→St→List El→Ow St
 |[],st,sc=>(st,sc,[])
 |t::l,st,sc=>((gX l (eZ false st t sc).1 (eZ false st t sc).2.1).1,(gX l (eZ false st t sc).1 (eZ false st t sc).2.1).2.1,(eZ false st t sc).2.2++(gX l (eZ false st t sc).1 (eZ false st t sc).2.1).2.2)
theorem vJ {g:Bool} {st:St} {t:Nat} {sc:List El} (h:cM (eZ g st t sc).2.2):(eZ g st t sc).1=st.fO g t:=by
 unfold eZ at h ⊢
 split at h
 · rename_i k off sz n cs' eK h1
   split at h
   · rename_i cs h2
     have h3:=h.1
     simp only [St.fO,h1,h2]
     rw [h3]
   · rfl
 · rfl
theorem rM:∀{l:List Nat} {st:St} {sc:List El},cM (gX l st sc).2.2→(gX l st sc).1=l.foldl St.pK st
 |[],st,sc,_=>rfl
 |t::l,st,sc,h=>by
  have h':=h.app
  simp only [gX,List.foldl_cons]
  rw [rM h'.2,vJ h'.1];rfl
def va (f:St→List El→Option (Ow (Xt×St))):Nat→St→List El→Option (Ow (Xt×St))
 |0,_,_=>none
 |n+1,st,s=>(f st s).bind fun x=>match x.1.1 with
  | .normal=>(va f n x.1.2 x.2.1).map fun y=>(y.1,y.2.1,x.2.2++y.2.2)
  |_=>some x
def mG (fV body:St→List El→Option (Ow (Xt×St))) (cP:St) (ps:List Nat):List (List PV)→St→List El→Option (Ow (Xt×St))
 |[],cur,s=>some ((.normal,cP.after cur),s,[])
 |x::xs,cur,s=>(fV (mw ps x (cP.after cur)) s).bind fun y=>match y.1.1 with
  | .normal=>(body y.1.2 y.2.1).bind fun z=>match z.1.1 with
    | .normal=>(mG fV body cP ps xs z.1.2 z.2.1).map fun t=>(t.1,t.2.1,y.2.2++(z.2.2++t.2.2))
    |e=>some ((e,cP.after z.1.2),z.2.1,y.2.2++z.2.2)
  |_=>none
def CF (P:Program) (call:Cl) (ops:Array Oper) (i:Nat) (st:St) (s:List El):Option (Ow St):=
 (ops[i]?).bind fun o=>(dZ ops.toList o st).bind fun
  |true=>CJ P call o st s
  |false=>some (st.put o.dst fA,s,[])
def yq {α β:Type} (f:α→List El→Option (Ow (List β))) (r:List α) (s:List El):Option (Ow (List β)):=
 r.foldr (fun i (k:List El→Option (Ow (List β))) s=>(f i s).bind fun y=>(k y.2.1).map fun z=>(y.1++z.1,z.2.1,y.2.2++z.2.2)) (fun s=>some ([],s,[])) s
def uf (P:Program) (call:Cl) (ops:Array Oper):Nat→Array Bool→St→List El→Option (Ow (List St))
 |0,listed,st,s=>if (Region.ready .any ops listed).isEmpty then some ([st],s,[]) else none
 |g+1,listed,st,s=>if (Region.ready .any ops listed).isEmpty then none else
   yq (fun i s=>(CF P call ops i st s).bind fun x=>(uf P call ops g (listed.setIfInBounds i true) x.1 x.2.1).map fun y=>(y.1,y.2.1,x.2.2++y.2.2)) (Region.ready .any ops listed) s
def vi (ks:List Nat):List St→Option (St×List Prop)
 |[]=>none
 |s::l=>some (s.bG ks,l.map fun x=>x.bG ks=s.bG ks)
def cW (P:Program) (call:Cl) (it:Nat→List PV→Option (Nat×List (List PV))) (k:Nat) (note:Nat→eL):Code→St→List El→Option (Ow (Xt×St))
 | .skip,st,s=>some ((.normal,st),s,[])
 | .region id ops dr,st,s=>if dr&&(note id).perm then
     (uf P call ops ops.size (Array.replicate ops.size false) (gX (note id).still st s).1 (gX (note id).still st s).2.1).bind fun x=>(vi (note id).keep x.1).map fun y=>((.normal,y.1),x.2.1,(gX (note id).still st s).2.2++(x.2.2++y.2))
   else (tG P call ops.toList dr (gX (note id).still st s).1 (gX (note id).still st s).2.1).map fun x=>((.normal,x.1.bG (note id).keep),x.2.1,(gX (note id).still st s).2.2++x.2.2)
 | .seq a b,st,s=>(cW P call it k note a st s).bind fun x=>match x.1.1 with
   | .normal=>(cW P call it k note b x.1.2 x.2.1).map fun y=>(y.1,y.2.1,x.2.2++y.2.2)
   |_=>some x
 | .cond c t e,st,s=>(st.val c).bind fun
   | .bool true=>cW P call it k note t st s
   | .bool false=>cW P call it k note e st s
   |_=>none
 | .block id c,st,s=>(cW P call it k note c st s).map fun x=>match x.1.1 with
   | .exit j=>if j=id then ((.normal,x.1.2),x.2) else x
   |_=>x
 | .loop c,st,s=>match s with
   | .l x s1::s'=>some ((x,s1),s',[yG P call it k note c st x s1])
   | .u n::s'=>(va (cW P call it k note c) n st s').map fun x=>(x.1,x.2.1,(n≤k)::x.2.2)
   |_=>none
 | .rangeFunc g ps fV body,st,s=>(st.pv g).bind fun
   | .fn f caps=>(it f caps).bind fun x=>if x.1=ps.size then
    mG (cW P call it k note fV) (cW P call it k note body) (st.hH (ps.toList++(dstsOf fV++dstsOf body))) ps.toList x.2 (st.hH (ps.toList++(dstsOf fV++dstsOf body))) s else none
   |_=>none
 | .exit id,st,s=>some ((.exit id,st),s,[])
 | .ret,st,s=>some ((.ret,st),s,[])
 |_,_,_=>none
def GZ (P:Program) (rs:List ResultVar) (st:St) (sc:List El):Option (RV×List Prop):=
 match sc,rs with
 |[],_=>(jz P st rs).map fun r=>(r,[])
 |[.f cs'],[.tmp t]=>match (eZ true st t [.f cs']).2.1 with
  |[]=>(pG P (eZ true st t [.f cs']).1 (.tmp t)).map fun r=>(r,(eZ true st t [.f cs']).2.2)
  |_=>none
 |_,_=>none
def yJ (P:Program) (call:Cl) (it:Nat→List PV→Option (Nat×List (List PV))) (k:Nat) (note:Nat→eL) (fn:Func) (args:List PV) (s:List El):Option (RV×List Prop):=
 fn.body.bind fun c=>(cW P call it k note c (.enter args) s).bind fun x=>match x.1.1 with
   | .exit _=>none
   |_=>(GZ P fn.results.toList x.1.2 x.2.1).map fun r=>(r.1,x.2.2++r.2)
def v7 (P:Program) (call:Cl) (it:Nat→List PV→Option (Nat×List (List PV))) (k:Nat) (note:Nat→eL) (fn:Func) (ms:List MA) (s:List El):Option ((MR×List PV)×List Prop):=
 fn.body.bind fun c=>if flat c&&(dstsOf c).all (fun d=>d !=gk) then (cW P call it k note c (.fI ms) s).bind fun x=>match x.1.1,x.2.1 with
   | .exit _,_=>none
   |_,[]=>(tR x.1.2 (jK ms) fn.results.toList).bind fun r=>(look x.1.2.bx gk).bind fun cs'=>(di ms).map fun cs=>((r,cs'),(cs'.all cH=true)::(cs'.length=cs.length)::x.2.2)
   |_,_=>none else none
section
variable {P:Program} {it:Nat→List PV→Option (Nat×List (List PV))} {call:Cl} {k:Nat} {note:Nat→eL}
theorem D0 {op:BinOp} {t:TypeId} {x y:Operand} {a b v:Value} {l:List Prop} (e:yR op a b=some (v,l)) (h:cM l):dQ (cK P (do eqGuard op t x y a b;binOp op t a b))=some { v:= .pv (.lit v)}:=by
 unfold yR at e
 split at e
 · simp only [Option.some.injEq,Prod.mk.injEq] at e
   obtain ⟨rfl,rfl⟩:=e
   have:=of_decide_eq_false h.1
   simp [dQ,cK,eqGuard,binOp,Op.shift,if_neg this,aB,iM,g9,Bind.bind,Sem.bind,pure,Pure.pure]
 · simp only [Option.some.injEq,Prod.mk.injEq] at e
   obtain ⟨rfl,rfl⟩:=e
   have:=of_decide_eq_false h.1
   simp [dQ,cK,eqGuard,binOp,Op.shift,if_neg this,aB,iM,g9,Bind.bind,Sem.bind,pure,Pure.pure]
 · split at e
   · rename_i hk
     subst hk
     simp only [Option.some.injEq,Prod.mk.injEq] at e
     obtain ⟨rfl,rfl⟩:=e
     have:=of_decide_eq_false h.1
     simp [dQ,cK,eqGuard,binOp,Op.intDiv,if_neg this,aB,iM,g9,Bind.bind,Sem.bind,pure,Pure.pure]
   · simp at e
 · split at e
   · rename_i hk
     subst hk
     simp only [Option.some.injEq,Prod.mk.injEq] at e
     obtain ⟨rfl,rfl⟩:=e
     have:=of_decide_eq_false h.1
     simp [dQ,cK,eqGuard,binOp,Op.intDiv,if_neg this,aB,iM,g9,Bind.bind,Sem.bind,pure,Pure.pure]
   · simp at e
 · simp at e
theorem Bn {t:TypeId} {str:ByteArray} {k:IntKind} {n b:Int} (hu:P.underlying t=some .string) (h:ja str n=some b):cK P (Instr.index t (.string str) (.int k n))=some (.lit (.int .u8 b)):=by
 unfold ja at h
 simp only [Option.map_eq_some_iff] at h
 obtain ⟨c,h1,rfl⟩:=h
 split at h1
 · rename_i h0
   simp [cK,Instr.index,asIntOf,underlying,program,hu,h0,h1,aB,iM,g9,Bind.bind,Sem.bind,pure,Pure.pure]
 · simp at h1
theorem nS {o:Oper} {st:St} {s s':List El} {m:Made} {l:List Prop} (e:oY P call o st s=some (m,s',l)) (hl:cM l):quiet P call o st=some m:=by
 have dflt:∀{s:List El},((quiet P call o st).map fun m=>(m,s,([]:List Prop)))=some (m,s',l)→quiet P call o st=some m:=fun e=>by
  simp only [Option.map_eq_some_iff,Prod.mk.injEq] at e
  obtain ⟨q,hq,rfl,_,_⟩:=e
  exact hq
 unfold oY at e
 split at e
 · rename_i op t x y p ho
   split at e
   · split at e
     · rename_i b s1
       simp only [Option.bind_eq_some_iff] at e
       obtain ⟨a,ha,b',hb,e⟩:=e
       split at e
       · rename_i c hc
         simp only [Option.some.injEq,Prod.mk.injEq] at e
         obtain ⟨rfl,rfl,rfl⟩:=e
         have:c=b:=hl.1
         subst this
         simp only [quiet,ho,ha,hb,Option.bind_some,hc,dQ,Option.map_some]
       · simp at e
     · rename_i b s1
       simp only [Option.bind_eq_some_iff,Option.some.injEq,Prod.mk.injEq] at e
       obtain ⟨a,ha,b',hb,rfl,rfl,rfl⟩:=e
       have hc:=hl.1
       simp only [quiet,ho,ha,hb,Option.bind_some,dQ]
       rw [hc];rfl
     · simp at e
   · split at e
     · rename_i v ob hv
       simp only [Option.some.injEq,Prod.mk.injEq] at e
       obtain ⟨rfl,rfl,rfl⟩:=e
       simp only [Option.bind_eq_some_iff] at hv
       obtain ⟨a,ha,b,hb,hv⟩:=hv
       simp only [quiet,ho,ha,hb,Option.bind_some]
       exact D0 hv hl
     · exact dflt e
 · rename_i t x i ho
   split at e
   · rename_i d b s1 str hp
     split at e
     · rename_i hc
       simp only [Option.map_eq_some_iff,Prod.mk.injEq] at e
       obtain ⟨n,hn,rfl,rfl,rfl⟩:=e
       have hu:=E2 hc.2
       simp only [quiet,ho,hp]
       obtain ⟨k,hk⟩:∃k,st.pv i=some (.lit (.int k n)):=by
        simp only [Option.bind_eq_some_iff] at hn
        obtain ⟨q,h1,h2⟩:=hn
        unfold cg at h2
        split at h2
        · simp only [Option.some.injEq] at h2;subst h2;exact ⟨_,h1⟩
        · simp at h2
       simp only [St.val,hp,hk,hu,Option.bind_some,valOf,Bn hu hl.1,dQ,Option.map_some]
     · simp at e
   · rename_i d p s1 cs hp
     split at e
     · split at e
       · rename_i len el hu
         simp only [Option.bind_eq_some_iff,Option.some.injEq,Prod.mk.injEq] at e
         obtain ⟨n,⟨q,hq,hn⟩,z,hz,rfl,rfl,rfl⟩:=e
         simp only [quiet,ho,hp,hu]
         simp only [hq,Option.bind_some,hn,hz]
         rw [if_pos hl.1,hl.2.1];rfl
       · simp at e
     · exact dflt e
   · exact dflt e
 · rename_i t x i ho
   simp only [Option.bind_eq_some_iff] at e
   obtain ⟨n,hn,e⟩:=e
   split at e
   · rename_i el hu
     simp only [Option.bind_eq_some_iff] at e
     obtain ⟨z,hz,e⟩:=e
     split at e
     · rename_i sz len cs hx
       split at e
       · rename_i hs
         split at e
         · split at e
           · simp only [Option.some.injEq,Prod.mk.injEq] at e
             obtain ⟨rfl,rfl,rfl⟩:=e
             simp only [quiet,ho,Option.bind_eq_some_iff]
             refine ⟨n,hn, ?_⟩
             simp only [hu,Option.bind_eq_some_iff]
             refine ⟨z,hz, ?_⟩
             simp only [hx]
             rw [if_pos ⟨hs,hl.1.1.1,hl.1.1.2⟩,hl.1.2]
           · simp at e
         · simp only [Option.some.injEq,Prod.mk.injEq] at e
           obtain ⟨rfl,rfl,rfl⟩:=e
           simp only [quiet,ho,Option.bind_eq_some_iff]
           refine ⟨n,hn, ?_⟩
           simp only [hu,Option.bind_eq_some_iff]
           refine ⟨z,hz, ?_⟩
           simp only [hx]
           rw [if_pos ⟨hs,hl.1.1,hl.1.2⟩]
       · simp at e
     · rename_i u hx
       split at e
       · rename_i sz len cs EN
         split at e
         · rename_i hs
           simp only [Option.some.injEq,Prod.mk.injEq] at e
           obtain ⟨rfl,rfl,rfl⟩:=e
           simp only [quiet,ho,Option.bind_eq_some_iff]
           refine ⟨n,hn, ?_⟩
           simp only [hu,Option.bind_eq_some_iff]
           refine ⟨z,hz, ?_⟩
           simp only [hx,EN]
           rw [if_pos ⟨hs,hl.1.1,hl.1.2⟩]
         · simp at e
       · simp at e
     · rename_i k off sz len hx
       split at e
       · rename_i hs
         split at e
         · split at e
           · simp only [Option.some.injEq,Prod.mk.injEq] at e
             obtain ⟨rfl,rfl,rfl⟩:=e
             have h1:=hl.1.1
             have h2:=hl.1.2
             subst h1
             simp only [quiet,ho,Option.bind_eq_some_iff]
             refine ⟨_,hn, ?_⟩
             simp only [hu,Option.bind_eq_some_iff]
             refine ⟨z,hz, ?_⟩
             simp only [hx]
             rw [if_pos ⟨hs,by omega,by omega⟩,Int.toNat_natCast]
           · simp at e
         · simp only [Option.some.injEq,Prod.mk.injEq] at e
           obtain ⟨rfl,rfl,rfl⟩:=e
           simp only [quiet,ho,Option.bind_eq_some_iff]
           refine ⟨n,hn, ?_⟩
           simp only [hu,Option.bind_eq_some_iff]
           refine ⟨z,hz, ?_⟩
           simp only [hx]
           rw [if_pos ⟨hs,hl.1.1,hl.1.2⟩]
       · simp at e
     · simp at e
   · rename_i len el hu
     split at e
     · rename_i d i' s1 k off hx
       split at e
       · simp only [Option.bind_eq_some_iff,Option.some.injEq,Prod.mk.injEq] at e
         obtain ⟨z,hz,rfl,rfl,rfl⟩:=e
         have h1:=hl.1.1
         have h2:=hl.1.2
         subst h1
         simp only [quiet,ho,Option.bind_eq_some_iff]
         refine ⟨_,hn, ?_⟩
         simp only [hu,Option.bind_eq_some_iff]
         refine ⟨z,hz, ?_⟩
         simp only [hx]
         rw [if_pos ⟨by omega,by omega⟩,Int.toNat_natCast]
       · exact dflt e
     · exact dflt e
   · exact dflt e
 · rename_i t x ho
   split at e
   · rename_i d p s1
     split at e
     · split at e
       · rename_i k o' hx
         simp only [Option.map_eq_some_iff,Prod.mk.injEq] at e
         obtain ⟨cs,hk,rfl,rfl,rfl⟩:=e
         simp only [quiet,ho,hx,Option.bind_eq_some_iff]
         refine ⟨cs,hk, ?_⟩
         rw [hl.1];rfl
       · rename_i cs hx
         simp only [Option.some.injEq,Prod.mk.injEq] at e
         obtain ⟨rfl,rfl,rfl⟩:=e
         simp only [quiet,ho,hx]
         rw [hl.1];rfl
       · simp at e
     · exact dflt e
   · exact dflt e
 · rename_i t x lo hi mx ho
   split at e
   · rename_i k off sz n hx
     split at e
     · rename_i Tg Th el hu
       split at e
       · rename_i hs
         simp only [Option.bind_eq_some_iff] at e
         obtain ⟨h,hh,lw,EO,e⟩:=e
         split at e
         · split at e
           · simp only [Option.some.injEq,Prod.mk.injEq] at e
             obtain ⟨rfl,rfl,rfl⟩:=e
             obtain ⟨h1,h2,h3,_⟩:=hl
             simp only [quiet,ho,hx,hu]
             rw [if_pos hs]
             simp only [Option.bind_eq_some_iff]
             refine ⟨h,hh,lw,EO, ?_⟩
             rw [if_pos h1,h2,h3]
           · simp at e
         · simp only [Option.some.injEq,Prod.mk.injEq] at e
           obtain ⟨rfl,rfl,rfl⟩:=e
           simp only [quiet,ho,hx,hu]
           rw [if_pos hs]
           simp only [Option.bind_eq_some_iff]
           refine ⟨h,hh,lw,EO, ?_⟩
           rw [if_pos hl.1]
       · simp at e
     · simp at e
   · rename_i sz n cs hx
     split at e
     · rename_i Tg Th el hu
       split at e
       · rename_i hs
         simp only [Option.bind_eq_some_iff] at e
         obtain ⟨h,hh,lw,EO,e⟩:=e
         split at e
         · split at e
           · simp only [Option.some.injEq,Prod.mk.injEq] at e
             obtain ⟨rfl,rfl,rfl⟩:=e
             obtain ⟨h1,h2,h3,_⟩:=hl
             simp only [quiet,ho,hx,hu]
             rw [if_pos hs]
             simp only [Option.bind_eq_some_iff]
             refine ⟨h,hh,lw,EO, ?_⟩
             rw [if_pos h1,←h2,←h3]
           · simp at e
         · simp only [Option.some.injEq,Prod.mk.injEq] at e
           obtain ⟨rfl,rfl,rfl⟩:=e
           simp only [quiet,ho,hx,hu]
           rw [if_pos hs]
           simp only [Option.bind_eq_some_iff]
           refine ⟨h,hh,lw,EO, ?_⟩
           rw [if_pos hl.1]
       · simp at e
     · simp at e
   · exact dflt e
 · rename_i g args ts ho
   split at e
   · rename_i rv s1
     split at e
     · rename_i v hv
       simp only [Option.bind_eq_some_iff] at e
       obtain ⟨p,hp,e⟩:=e
       split at e
       · rename_i f caps
         simp only [Option.bind_eq_some_iff] at e
         obtain ⟨fU,has,e⟩:=e
         split at e
         · rename_i hout
           split at e
           · rename_i oN
             simp only [Option.some.injEq,Prod.mk.injEq] at e
             obtain ⟨rfl,rfl,rfl⟩:=e
             simp only [quiet,ho,hv,Option.bind_eq_some_iff]
             refine ⟨.fn f caps,hp, ?_⟩
             simp only [Option.bind_eq_some_iff]
             refine ⟨fU,has, ?_⟩
             simp only [rV,hl.1,Option.bind_some]
             rw [if_pos hout,if_pos oN]
           · simp at e
         · rename_i hout
           simp only [Option.some.injEq,Prod.mk.injEq] at e
           obtain ⟨rfl,rfl,rfl⟩:=e
           simp only [quiet,ho,hv,Option.bind_eq_some_iff]
           refine ⟨.fn f caps,hp, ?_⟩
           simp only [Option.bind_eq_some_iff]
           refine ⟨fU,has, ?_⟩
           simp only [rV,hl.1,Option.bind_some]
           rw [if_neg hout]
       · simp at e
     · simp at e
   · simp at e
 · exact dflt e
theorem nR {o:Oper} {st:St} {s s':List El} {m:Made} {l:List Prop} (e:oW P call o st s=some (m,s',l)) (hl:cM l):quiet P call o st=some m:=by
 unfold oW at e
 split at e
 · exact nS e hl
 · split at e
   · simp only [Option.bind_eq_some_iff] at e
     obtain ⟨⟨m0,s0,l0⟩,h0,e⟩:=e
     split at e
     · rename_i k y hv
       simp only [Option.some.injEq,Prod.mk.injEq] at e
       obtain ⟨rfl,rfl,rfl⟩:=e
       obtain ⟨h1,h2⟩:=hl
       have:=nS h0 h2
       rw [this]
       simp only at hv
       subst h1
       cases m0
       simp only at hv
       subst hv
       rfl
     · simp at e
   · exact nS e hl
 · exact nS e hl
theorem FF {o:Oper} {st:St} {s s':List El} {m:Made} {l:List Prop} (e:Ay P call o st s=some (m,s',l)) (hl:cM l):quiet P call o st=some m:=by
 unfold Ay at e
 split at e
 · rename_i d str' r d' t x lo hi hd ho
   split at e
   · split at e
     · rename_i str hx
       simp only [Option.bind_eq_some_iff,Option.some.injEq,Prod.mk.injEq] at e
       obtain ⟨lv,hlv,hv,xy,rfl,rfl,rfl⟩:=e
       have h1:=hl.1
       simp only [quiet,ho,hx,valOf,Option.bind_some]
       cases lo with
       |none=>
        simp only [rD,Option.some.injEq] at hlv
        subst hlv
        cases hi with
        |none=>simp only [rD,Option.some.injEq] at xy;subst xy;simp only [dQ];rw [h1];rfl
        |some y=>
         simp only [rD,Option.map_eq_some_iff] at xy
         obtain ⟨w,hw,rfl⟩:=xy
         simp only [hw,Option.bind_some,dQ];rw [h1];rfl
       |some z=>
        simp only [rD,Option.map_eq_some_iff] at hlv
        obtain ⟨w2,zK,rfl⟩:=hlv
        cases hi with
        |none=>simp only [rD,Option.some.injEq] at xy;subst xy;simp only [zK,Option.bind_some,dQ];rw [h1];rfl
        |some y=>
         simp only [rD,Option.map_eq_some_iff] at xy
         obtain ⟨w,hw,rfl⟩:=xy
         simp only [hw,zK,Option.bind_some,dQ];rw [h1];rfl
     · simp at e
   · exact nR e hl
 · rename_i d str' r d' src dst x hd ho
   split at e
   · split at e
     · rename_i n cs el hx hs jZ
       split at e
       · rename_i hu
         simp only [Option.some.injEq,Prod.mk.injEq] at e
         obtain ⟨rfl,rfl,rfl⟩:=e
         have h1:=hl.1
         simp only [Option.map_eq_some_iff] at h1
         obtain ⟨bs,jY,rfl⟩:=h1
         simp only [quiet,ho,hx,hs,jZ,hu,jY,Option.map_some]
       · simp at e
     · simp at e
   · exact nR e hl
 · exact nR e hl
theorem xP {o:Oper} {st:St} {s s':List El} {m:Made} {l:List Prop} (e:oX P call o st s=some (m,s',l)) (hl:cM l):quiet P call o st=some m:=by
 unfold oX at e
 split at e
 · split at e
   · simp only [Option.some.injEq,Prod.mk.injEq] at e
     obtain ⟨rfl,rfl,rfl⟩:=e
     exact hl.1
   · exact nR e hl
 · exact FF e hl
theorem CP {o:Oper} {st s:St} {sc eK:List El} {l:List Prop} (e:oD P o st sc=some (s,eK,l)) (hl:cM l):effect P o st=some s:=by
 have dflt:((effect P o st).map fun m=>(m,sc,([]:List Prop)))=some (s,eK,l)→effect P o st=some s:=fun e=>by
  simp only [Option.map_eq_some_iff,Prod.mk.injEq] at e
  obtain ⟨q,hq,rfl,_,_⟩:=e
  exact hq
 unfold oD at e
 split at e
 · rename_i t a x ho
   split at e
   · rename_i u off ha
     split at e
     · rename_i hd
       split at e
       · rename_i sz n cs p hu hp
         split at e
         · rename_i hc
           simp only [Option.some.injEq,Prod.mk.injEq] at e
           obtain ⟨rfl,rfl,rfl⟩:=e
           simp only [effect,ho,if_pos hd,ha,hu,hp]
           rw [if_pos ⟨hc.1,hc.2,hl.1⟩]
         · simp at e
       · simp at e
     · simp at e
   · rename_i k off ha
     split at e
     · rename_i cs' AG
       split at e
       · rename_i hd
         split at e
         · rename_i u p cs hk hp
           split at e
           · rename_i hc
             simp only [Option.some.injEq,Prod.mk.injEq] at e
             obtain ⟨rfl,rfl,rfl⟩:=e
             obtain ⟨h1,h2,_⟩:=hl
             have fo:st.iR k off p.cells=some { st with bx:=(k,cs')::bF st.bx k,gr:=st.gr.filter (fun x=>x.1.out k off p.cells.length),tg:=st.tg.map (mh k off p.cells.length)}:=by
              simp only [St.iR,hk,Option.bind_some]
              rw [if_pos h1,h2]
             simp only [effect,ho,if_pos hd,ha,hp]
             rw [if_pos ⟨hc.1,hc.2.1⟩,fo]
             simp only [Option.map_some,Option.some.injEq]
             have hno:aG (st.gr.filter (fun x=>x.1.out k off p.cells.length)) (.s u)=none:=by
              rw [rz]
              simp only [Pl.out,if_true]
              simpa using hc.2.2
             rw [hno]
           · simp at e
         · rename_i v p cs hk hp
           split at e
           · rename_i hc
             simp only [Option.some.injEq,Prod.mk.injEq] at e
             obtain ⟨rfl,rfl,rfl⟩:=e
             obtain ⟨h1,h2,_⟩:=hl
             simp only [effect,ho,if_pos hd,ha,hp]
             rw [if_pos ⟨hc.1,hc.2⟩]
             simp only [St.iR,hk,Option.bind_some]
             rw [if_pos h1,h2]
           · simp at e
         · simp at e
       · simp at e
     · exact dflt e
   · exact dflt e
 · rename_i t ln c ho
   split at e
   · rename_i b AG
     rw [Option.bind_eq_some_iff] at e
     obtain ⟨d,hd,e⟩:=e
     split at e
     · rename_i el n m hu hn hm
       rw [Option.bind_eq_some_iff] at e
       obtain ⟨sz,hsz,e⟩:=e
       rw [Option.bind_eq_some_iff] at e
       obtain ⟨z,hz,e⟩:=e
       split at e
       · rename_i hc
         split at e
         · simp only [Option.map_eq_some_iff,Prod.mk.injEq] at e
           obtain ⟨s2,jl,rfl,rfl,rfl⟩:=e
           obtain ⟨⟨h1,h2,h3,h4⟩,h5,h6,_⟩:=hl
           simp only [effect,ho,hd,Option.bind_some,hu,hn,hm,hsz,hz]
           rw [if_pos ⟨h1,h2,h3,h4,hc⟩]
           rw [if_neg (by simpa using h5),h6];exact jl
         · simp only [Option.map_eq_some_iff,Prod.mk.injEq] at e
           obtain ⟨s2,jl,rfl,rfl,rfl⟩:=e
           obtain ⟨⟨h1,h2,h3,h4⟩,h5,_⟩:=hl
           simp only [effect,ho,hd,Option.bind_some,hu,hn,hm,hsz,hz]
           rw [if_pos ⟨h1,h2,h3,h4,hc⟩]
           cases b with
           |true=>rw [if_pos (by simpa using h5)];exact jl
           |false=>rw [if_neg (by simpa using h5)];exact jl
       · simp at e
     · simp at e
   · simp at e
 · rename_i args ts ho
   rw [Option.bind_eq_some_iff] at e
   obtain ⟨d,hd,e⟩:=e
   split at e
   · rename_i x y T U ha hts
     split at e
     · rename_i el Yj hT hU
       simp only [Option.bind_eq_some_iff] at e
       obtain ⟨sz,hsz,z,hz,p,hp,v,hv,u,⟨p2,Mi,hu⟩,e⟩:=e
       split at e
       · rename_i hc
         simp only [effect,ho,hd,Option.bind_some,ha,hts,hT,hU,hsz,hz,hp,hv,Mi,hu]
         split at e
         · rename_i v0
           split at e
           · rename_i b AG
             simp only [Option.some.injEq,Prod.mk.injEq] at e
             obtain ⟨rfl,rfl,rfl⟩:=e
             obtain ⟨⟨h1,h2⟩,⟨h3,h4⟩,h5,_⟩:=hl
             rw [if_pos ⟨h1,h2,hc.1,hc.2,h3,h4⟩]
             cases b with
             |true=>rw [if_pos (by simpa using h5)];rfl
             |false=>rw [if_neg (by simpa using h5)];rfl
           · simp at e
         · rename_i hnl
           split at e
           · rename_i t
             simp only [Option.map_eq_some_iff] at e
             obtain ⟨q,hq,e⟩:=e
             split at e
             · simp only [Prod.mk.injEq] at e
               obtain ⟨rfl,rfl,rfl⟩:=e
               obtain ⟨⟨⟨h5,h6⟩,⟨h1,h2⟩,h3,h4⟩,_⟩:=hl
               rw [←h5] at h1 h2
               rw [if_pos ⟨h1,h2,hc.1,hc.2,h3,h4⟩]
               cases p with
               |lit v0=>exact absurd rfl (hnl v0)
               |_=>
                exact Option.map_eq_some_iff.2 ⟨q,hq,by rw [h5,h6]⟩
             · simp only [Prod.mk.injEq] at e
               obtain ⟨rfl,rfl,rfl⟩:=e
               obtain ⟨⟨h1,h2⟩,⟨h3,h4⟩,_⟩:=hl
               rw [if_pos ⟨h1,h2,hc.1,hc.2,h3,h4⟩]
               cases p with
               |lit v0=>exact absurd rfl (hnl v0)
               |_=>
                exact Option.map_eq_some_iff.2 ⟨q,hq,rfl⟩
           · simp at e
       · simp at e
     · simp at e
   · simp at e
 · exact dflt e
theorem Bw {o:Oper} {st s:St} {sc eK:List El} {l:List Prop} (e:CJ P call o st sc=some (s,eK,l)) (hl:cM l):kY P call o st=some s:=by
 have plain:(if gZ o.op=true then (oX P call o st sc).map fun x=>(st.made o.dst x.1,x.2) else oD P o st sc)=some (s,eK,l)→(if gZ o.op=true then (quiet P call o st).map (st.made o.dst) else effect P o st)=some s:=fun e=>by
  split at e
  · rename_i hq
    rw [if_pos hq]
    simp only [Option.map_eq_some_iff,Prod.mk.injEq] at e ⊢
    obtain ⟨⟨m,AG,l'⟩,hm,rfl,h2⟩:=e
    simp only [Prod.mk.injEq] at h2
    obtain ⟨rfl,rfl⟩:=h2
    exact ⟨m,xP hm hl,rfl⟩
  · rename_i hq
    rw [if_neg hq]
    exact CP e hl
 unfold CJ at e
 unfold kY
 split at e
 · rename_i f vs hc
   rw [hc]
   simp only
   split at e
   · rename_i zC
     rw [if_pos zC]
     unfold Aa at e
     split at e
     · rename_i r cs s1
       simp only [Option.bind_eq_some_iff] at e
       obtain ⟨g,hg,ms,Ma,e⟩:=e
       split at e
       · rename_i hok
         simp only [Option.some.injEq,Prod.mk.injEq] at e
         obtain ⟨rfl,rfl,rfl⟩:=e
         simp only [sr,hg,Ma,Option.bind_some,hl.1]
         rw [if_pos hok]
       · simp at e
     · simp at e
   · rename_i zC
     rw [if_neg zC]
     split at e
     · rename_i hex
       rw [if_pos hex]
       unfold BG at e
       unfold uE
       split at e
       · rename_i rv s1
         split at e
         · rename_i g args ts ho
           simp only [ho]
           split at e
           · rename_i f' caps hg
             simp only [hg]
             split at e
             · simp at e
             · rename_i zl
               rw [if_neg zl]
               simp only [Option.bind_eq_some_iff] at e ⊢
               obtain ⟨fU,has,d,hd,e⟩:=e
               refine ⟨fU,has,rv, ?_⟩
               split at e
               · rename_i sz n cs z hv hz
                 split at e
                 · rename_i hzs
                   simp only [Option.map_eq_some_iff,Prod.mk.injEq] at e
                   obtain ⟨s2,jl,rfl,rfl,rfl⟩:=e
                   obtain ⟨h1,h2,_⟩:=hl
                   refine ⟨h1,d,hd, ?_⟩
                   rw [hv,hz]
                   simp only
                   rw [if_pos ⟨hzs,h2⟩]
                   exact jl
                 · simp at e
               · simp at e
           · simp at e
         · simp at e
       · simp at e
     · rename_i hex
       rw [if_neg hex]
       exact plain e
 · rename_i hc
   rw [hc]
   exact plain e
theorem pF {ops:List Oper}:∀(l:List Oper) (st s:St) (sc eK:List El) (ob:List Prop),pE P call ops l st sc=some (s,eK,ob)→cM ob→n9 (kY P call) ops l st=some s
 |[],st,s,sc,eK,ob,e,h=>by simp only [pE,Option.some.injEq,Prod.mk.injEq] at e;simp [n9,e.1]
 |o::l,st,s,sc,eK,ob,e,h=>by
  simp only [pE,Option.bind_eq_some_iff] at e
  obtain ⟨b,hw,e⟩:=e
  simp only [n9,Option.bind_eq_some_iff]
  cases b with
  |true=>
   simp only [Option.bind_eq_some_iff,Option.map_eq_some_iff,Prod.mk.injEq] at e
   obtain ⟨⟨s1,AG,l1⟩,ha,⟨s2,JF,l2⟩,hr,rfl,rfl,rfl⟩:=e
   obtain ⟨h2,h3⟩:=h.app
   exact ⟨true,hw,by simp only [Option.bind_eq_some_iff];exact ⟨s1,Bw ha h2,pF l _ _ _ _ _ hr h3⟩⟩
  |false=>exact ⟨false,hw,pF l _ _ _ _ _ e h⟩
theorem CT {o:Oper} {st:St} {s s':List El} {m:Made} {l:List Prop} (e:wo call o st s=some (m,s',l)) (hl:cM l):oF call o st=some m:=by
 unfold wo at e
 unfold oF
 split at e
 · rename_i rv s1
   split at e
   · rename_i f args ts ho
     split at e
     · simp at e
     · rename_i zl
       simp only [ho]
       rw [if_neg zl]
       simp only [Option.bind_eq_some_iff] at e ⊢
       obtain ⟨fU,has,e⟩:=e
       split at e
       · rename_i sz n cs z hv hz
         split at e
         · rename_i hzs
           simp only [Option.some.injEq,Prod.mk.injEq] at e
           obtain ⟨rfl,rfl,rfl⟩:=e
           obtain ⟨h1,h2,_⟩:=hl
           refine ⟨fU,has,rv,h1, ?_⟩
           rw [hv,hz]
           simp only
           rw [if_pos ⟨hzs,h2⟩]
         · simp at e
       · simp at e
   · simp at e
 · simp at e
theorem Dw {o:Oper} {st:St} {s s':List El} {m:Made} {l:List Prop} (e:wR P call o st s=some (m,s',l)) (hl:cM l):eS P call o st=some m:=by
 unfold wR at e
 split at e
 · rename_i hx
   unfold eS
   rw [if_pos hx]
   exact CT e hl
 rename_i Mx
 split at e
 · simp only [Option.map_eq_some_iff,Prod.mk.injEq] at e
   obtain ⟨q,hq,rfl,_,_⟩:=e
   exact hq
 · simp only [Option.map_eq_some_iff,Prod.mk.injEq] at e
   obtain ⟨q,hq,rfl,_,_⟩:=e
   exact hq
 · rename_i xA hn2
   simp only [Option.bind_eq_some_iff] at e
   obtain ⟨⟨m0,s0,l0⟩,hm,e⟩:=e
   split at e
   · simp at e
   · rename_i hx
     simp only [Option.some.injEq,Prod.mk.injEq] at e
     obtain ⟨rfl,rfl,rfl⟩:=e
     have:=xP hm hl
     unfold eS
     rw [if_neg Mx]
     split
     · rename_i ho;exact absurd ho (xA _)
     · rename_i ho;exact absurd ho (hn2 _)
     · simp only [Option.bind_eq_some_iff]
       exact ⟨m0,this,by rw [if_neg hx]⟩
theorem qI {ops:List Oper}:∀(l:List Oper) (st s:St) (sc eK:List El) (ob:List Prop),oC P call ops l st sc=some (s,eK,ob)→cM ob→jU P call ops l st=some s
 |[],st,s,sc,eK,ob,e,h=>by simp only [oC,Option.some.injEq,Prod.mk.injEq] at e;simp [jU,e.1]
 |o::l,st,s,sc,eK,ob,e,h=>by
  simp only [oC,Option.bind_eq_some_iff] at e
  obtain ⟨b,hw,e⟩:=e
  simp only [jU,Option.bind_eq_some_iff]
  cases b with
  |true=>
   simp only [Option.bind_eq_some_iff,Option.map_eq_some_iff,Prod.mk.injEq] at e
   obtain ⟨⟨s1,AG,l1⟩,ha,⟨s2,JF,l2⟩,hr,rfl,rfl,rfl⟩:=e
   obtain ⟨h2,h3⟩:=h.app
   exact ⟨true,hw,by simp only [Option.bind_eq_some_iff];exact ⟨s1,Dw ha h2,qI l _ _ _ _ _ hr h3⟩⟩
  |false=>exact ⟨false,hw,qI l _ _ _ _ _ e h⟩
theorem A5 {ops:List Oper} {dr:Bool} {st s:St} {sc eK:List El} {ob:List Prop} (e:tG P call ops dr st sc=some (s,eK,ob)) (h:cM ob):kr P call ops dr st=some s:=by
 unfold tG at e
 unfold kr
 cases dr with
 |false=>simp only [Bool.false_eq_true,if_false] at e ⊢;exact pF _ _ _ _ _ _ e h
 |true=>
  simp only [if_true] at e ⊢
  split at e
  · rename_i hf
    rw [if_pos hf]
    simp only [Option.bind_eq_some_iff,Option.map_eq_some_iff,Prod.mk.injEq] at e ⊢
    obtain ⟨⟨s1,AG,l1⟩,h1,s2,h2,⟨s3,YI,l3⟩,h3,rfl,rfl,rfl⟩:=e
    obtain ⟨k1,k3⟩:=h.app
    exact ⟨s1,qI _ _ _ _ _ _ h1 k1,s2,h2,pF _ _ _ _ _ _ h3 k3⟩
  · simp at e
theorem zW {f:St→Option (Xt×St)} {g:St→List El→Option (Ow (Xt×St))} (hf:∀st s x s' ob,g st s=some (x,s',ob)→cM ob→f st=some x):
  ∀(n k:Nat) (st:St) (s:List El) (x:Xt×St) (s':List El) (ob:List Prop),n≤k→va g n st s=some (x,s',ob)→cM ob→bh f k st=some x
 |0,k,st,s,x,s',ob,hk,e,h=>by simp [va] at e
 |n+1,0,st,s,x,s',ob,hk,e,h=>by omega
 |n+1,k+1,st,s,x,s',ob,hk,e,h=>by
  simp only [va,Option.bind_eq_some_iff] at e
  obtain ⟨⟨⟨y,cP⟩,s1,l1⟩,h1,e⟩:=e
  simp only [bh,Option.bind_eq_some_iff]
  cases y with
  |normal=>
   simp only [Option.map_eq_some_iff,Prod.mk.injEq] at e
   obtain ⟨⟨x2,s2,l2⟩,h2,rfl,rfl,rfl⟩:=e
   obtain ⟨k1,k2⟩:=h.app
   exact ⟨(.normal,cP),hf _ _ _ _ _ h1 k1,zW hf n k _ _ _ _ _ (by omega) h2 k2⟩
  |exit id=>
   simp only [Option.some.injEq,Prod.mk.injEq] at e
   obtain ⟨rfl,rfl,rfl⟩:=e
   exact ⟨(.exit id,cP),hf _ _ _ _ _ h1 h,rfl⟩
  |ret=>
   simp only [Option.some.injEq,Prod.mk.injEq] at e
   obtain ⟨rfl,rfl,rfl⟩:=e
   exact ⟨(.ret,cP),hf _ _ _ _ _ h1 h,rfl⟩
theorem sM {fa fb:St→Option (Xt×St)} {ga gb:St→List El→Option (Ow (Xt×St))} (ha:∀st s x s' ob,ga st s=some (x,s',ob)→cM ob→fa st=some x) (hb:∀st s x s' ob,gb st s=some (x,s',ob)→cM ob→fb st=some x) {cP:St} {ps:List Nat}:
  ∀(xs:List (List PV)) (cur:St) (s:List El) (x:Xt×St) (s':List El) (ob:List Prop),mG ga gb cP ps xs cur s=some (x,s',ob)→cM ob→fF fa fb cP ps xs cur=some x
 |[],cur,s,x,s',ob,e,h=>by simp only [mG,Option.some.injEq,Prod.mk.injEq] at e;simp [fF,e.1]
 |y::xs,cur,s,x,s',ob,e,h=>by
  simp only [mG,Option.bind_eq_some_iff] at e
  obtain ⟨⟨⟨t,sa⟩,s1,l1⟩,h1,e⟩:=e
  simp only [fF,Option.bind_eq_some_iff]
  cases t with
  |exit id=>simp at e
  |ret=>simp at e
  |normal=>
   simp only [Option.bind_eq_some_iff] at e
   obtain ⟨⟨⟨t2,sb⟩,s2,l2⟩,h2,e⟩:=e
   cases t2 with
   |normal=>
    simp only [Option.map_eq_some_iff,Prod.mk.injEq] at e
    obtain ⟨⟨x3,s3,l3⟩,h3,rfl,rfl,rfl⟩:=e
    obtain ⟨k1,U9⟩:=h.app
    obtain ⟨k2,k3⟩:=U9.app
    refine ⟨(.normal,sa),ha _ _ _ _ _ h1 k1, ?_⟩
    simp only [Option.bind_eq_some_iff]
    exact ⟨(.normal,sb),hb _ _ _ _ _ h2 k2,sM ha hb xs _ _ _ _ _ h3 k3⟩
   |exit id=>
    simp only [Option.some.injEq,Prod.mk.injEq] at e
    obtain ⟨rfl,rfl,rfl⟩:=e
    obtain ⟨k1,k2⟩:=h.app
    refine ⟨(.normal,sa),ha _ _ _ _ _ h1 k1, ?_⟩
    simp only [Option.bind_eq_some_iff]
    exact ⟨(.exit id,sb),hb _ _ _ _ _ h2 k2,rfl⟩
   |ret=>
    simp only [Option.some.injEq,Prod.mk.injEq] at e
    obtain ⟨rfl,rfl,rfl⟩:=e
    obtain ⟨k1,k2⟩:=h.app
    refine ⟨(.normal,sa),ha _ _ _ _ _ h1 k1, ?_⟩
    simp only [Option.bind_eq_some_iff]
    exact ⟨(.ret,sb),hb _ _ _ _ _ h2 k2,rfl⟩
theorem Gy {ops:Array Oper} {i:Nat} {st s:St} {sc eK:List El} {ob:List Prop} (e:CF P call ops i st sc=some (s,eK,ob)) (h:cM ob):yI (kY P call) ops i st=some s:=by
 simp only [CF,Option.bind_eq_some_iff] at e
 obtain ⟨o,ho,b,hb,e⟩:=e
 simp only [yI,Option.bind_eq_some_iff]
 refine ⟨o,ho,b,hb, ?_⟩
 cases b with
 |true=>exact Bw e h
 |false=>
  simp only [Option.some.injEq,Prod.mk.injEq] at e
  simp only [e.1]
theorem zb {α β:Type} {f:α→List El→Option (Ow (List β))} {g:α→Option (List β)} (hf:∀i s l s' ob,f i s=some (l,s',ob)→cM ob→g i=some l):∀(r:List α) (s:List El) (ls:List β) (s':List El) (ob:List Prop),yq f r s=some (ls,s',ob)→cM ob→r.foldr (fun i acc=>(g i).bind fun l=>acc.map (l++ ·)) (some [])=some ls
 |[],s,ls,s',ob,e,h=>by
  simp only [yq,List.foldr_nil,Option.some.injEq,Prod.mk.injEq] at e
  simp [e.1]
 |i::r,s,ls,s',ob,e,h=>by
  simp only [yq,List.foldr_cons,Option.bind_eq_some_iff,Option.map_eq_some_iff,Prod.mk.injEq] at e
  obtain ⟨⟨l1,s1,o1⟩,h1,⟨l2,s2,o2⟩,h2,rfl,rfl,rfl⟩:=e
  obtain ⟨k1,k2⟩:=h.app
  simp only [List.foldr_cons,Option.bind_eq_some_iff,Option.map_eq_some_iff]
  exact ⟨l1,hf _ _ _ _ _ h1 k1,l2,zb hf r s1 l2 s2 o2 h2 k2,rfl⟩
theorem yH {ops:Array Oper}:∀(g:Nat) (listed:Array Bool) (st:St) (sc:List El) (ls:List St) (eK:List El) (ob:List Prop),uf P call ops g listed st sc=some (ls,eK,ob)→cM ob→pz (kY P call) ops g listed st=some ls
 |0,listed,st,sc,ls,eK,ob,e,h=>by
  simp only [uf] at e
  split at e
  · rename_i he
    simp only [Option.some.injEq,Prod.mk.injEq] at e
    simp only [pz]
    rw [if_pos he,e.1]
  · simp at e
 |g+1,listed,st,sc,ls,eK,ob,e,h=>by
  simp only [uf] at e
  split at e
  · simp at e
  · rename_i he
    simp only [pz]
    rw [if_neg he]
    refine zb (fun i s l s' ob e h=> ?_) _ _ _ _ _ e h
    simp only [Option.bind_eq_some_iff,Option.map_eq_some_iff,Prod.mk.injEq] at e
    obtain ⟨⟨s1,AG,o1⟩,h1,⟨l2,JF,o2⟩,h2,rfl,rfl,rfl⟩:=e
    obtain ⟨k1,k2⟩:=h.app
    simp only [Option.bind_eq_some_iff]
    exact ⟨s1,Gy h1 k1,yH g _ _ _ _ _ _ h2 k2⟩
theorem Fq {ks:List Nat} {ls:List St} {s:St} {ob:List Prop} (e:vi ks ls=some (s,ob)) (h:cM ob):oneOf ks ls=some s:=by
 cases ls with
 |nil=>simp [vi] at e
 |cons y l=>
  simp only [vi,Option.some.injEq,Prod.mk.injEq] at e
  obtain ⟨rfl,rfl⟩:=e
  simp only [oneOf]
  refine if_pos ?_
  intro x hx
  revert h x
  induction l with
  |nil=>intro h x hx;simp at hx
  |cons z l ih=>
   intro h x hx
   simp only [List.map_cons] at h
   rcases List.mem_cons.1 hx with rfl|hx
   · exact h.1
   · exact ih h.2 x hx
theorem cn:∀(c:Code) (st:St) (p:List El) (x:Xt×St) (p':List El) (ob:List Prop),cW P call it k note c st p=some (x,p',ob)→cM ob→cV P call it (fun g=>bh g k) note c st=some x
 | .skip,st,p,x,p',ob,e,h=>by simp only [cW,Option.some.injEq,Prod.mk.injEq] at e;simp [cV,e.1]
 | .region id ops dr,st,p,x,p',ob,e,h=>by
   simp only [cW] at e
   split at e
   · rename_i hp
     simp only [Option.map_eq_some_iff,Option.bind_eq_some_iff,Prod.mk.injEq] at e
     obtain ⟨⟨ls,p1,l⟩,hs,⟨s,obs⟩,h1,rfl,h2,rfl⟩:=e
     obtain ⟨k1,k2⟩:=h.app
     obtain ⟨k3,k4⟩:=k2.app
     simp only [cV]
     rw [if_pos hp,←rM k1,yH _ _ _ _ _ _ _ hs k3,Option.bind_some,Fq h1 k4];rfl
   rename_i hp
   simp only [Option.map_eq_some_iff,Prod.mk.injEq] at e
   obtain ⟨⟨s,p1,l⟩,hs,rfl,h2⟩:=e
   obtain ⟨rfl,rfl⟩:=h2
   obtain ⟨k1,k2⟩:=h.app
   simp only [cV]
   rw [if_neg hp,←rM k1,A5 hs k2];rfl
 | .seq a b,st,p,x,p',ob,e,h=>by
   simp only [cW,Option.bind_eq_some_iff] at e
   obtain ⟨⟨⟨y,s⟩,p1,l1⟩,h1,e⟩:=e
   simp only [cV,Option.bind_eq_some_iff]
   cases y with
   |normal=>
    simp only [Option.map_eq_some_iff,Prod.mk.injEq] at e
    obtain ⟨⟨x2,p2,l2⟩,h2,rfl,rfl,rfl⟩:=e
    obtain ⟨k1,k2⟩:=h.app
    exact ⟨(.normal,s),cn a _ _ _ _ _ h1 k1,cn b _ _ _ _ _ h2 k2⟩
   |exit id=>
    simp only [Option.some.injEq,Prod.mk.injEq] at e
    obtain ⟨rfl,rfl,rfl⟩:=e
    exact ⟨(.exit id,s),cn a _ _ _ _ _ h1 h,rfl⟩
   |ret=>
    simp only [Option.some.injEq,Prod.mk.injEq] at e
    obtain ⟨rfl,rfl,rfl⟩:=e
    exact ⟨(.ret,s),cn a _ _ _ _ _ h1 h,rfl⟩
 | .cond c t el,st,p,x,p',ob,e,h=>by
   simp only [cW,Option.bind_eq_some_iff] at e
   obtain ⟨v,hv,e⟩:=e
   simp only [cV,Option.bind_eq_some_iff]
   refine ⟨v,hv, ?_⟩
   split at e
   · exact cn t _ _ _ _ _ e h
   · exact cn el _ _ _ _ _ e h
   · simp at e
 | .block id c,st,p,x,p',ob,e,h=>by
   simp only [cW,Option.map_eq_some_iff] at e
   obtain ⟨⟨⟨y,s⟩,p1,l1⟩,h1,e⟩:=e
   simp only [cV,Option.map_eq_some_iff]
   cases y with
   |normal=>
    simp only [Prod.mk.injEq] at e
    obtain ⟨rfl,rfl,rfl⟩:=e
    exact ⟨_,cn c _ _ _ _ _ h1 h,rfl⟩
   |ret=>
    simp only [Prod.mk.injEq] at e
    obtain ⟨rfl,rfl,rfl⟩:=e
    exact ⟨_,cn c _ _ _ _ _ h1 h,rfl⟩
   |exit j=>
    simp only at e
    split at e
    · rename_i hj
      simp only [Prod.mk.injEq] at e
      obtain ⟨rfl,rfl,rfl⟩:=e
      exact ⟨_,cn c _ _ _ _ _ h1 h,by simp only;rw [if_pos hj]⟩
    · rename_i hj
      simp only [Prod.mk.injEq] at e
      obtain ⟨rfl,rfl,rfl⟩:=e
      exact ⟨_,cn c _ _ _ _ _ h1 h,by simp only;rw [if_neg hj]⟩
 | .loop c,st,p,x,p',ob,e,h=>by
   simp only [cW] at e
   split at e
   · simp only [Option.some.injEq,Prod.mk.injEq] at e
     obtain ⟨rfl,rfl,rfl⟩:=e
     exact h.1
   · rename_i n s1
     simp only [Option.map_eq_some_iff,Prod.mk.injEq] at e
     obtain ⟨⟨x2,s2,l2⟩,h2,rfl,rfl,rfl⟩:=e
     exact zW (f:=cV P call it (fun g=>bh g k) note c) (fun st s x s' ob e h=>cn c st s x s' ob e h) n k _ _ _ _ _ h.1 h2 h.2
   · simp at e
 | .rangeFunc g ps fV body,st,p,x,p',ob,e,h=>by
   simp only [cW,Option.bind_eq_some_iff] at e
   obtain ⟨q,hq,e⟩:=e
   simp only [cV,Option.bind_eq_some_iff]
   refine ⟨q,hq, ?_⟩
   split at e
   · simp only [Option.bind_eq_some_iff] at e ⊢
     obtain ⟨y,hy,e⟩:=e
     refine ⟨y,hy, ?_⟩
     split at e
     · rename_i hn
       rw [if_pos hn]
       exact sM (fun st s x s' ob e h=>cn fV st s x s' ob e h) (fun st s x s' ob e h=>cn body st s x s' ob e h) _ _ _ _ _ _ e h
     · simp at e
   · simp at e
 | .exit id,st,p,x,p',ob,e,h=>by simp only [cW,Option.some.injEq,Prod.mk.injEq] at e;simp [cV,e.1]
 | .ret,st,p,x,p',ob,e,h=>by simp only [cW,Option.some.injEq,Prod.mk.injEq] at e;simp [cV,e.1]
 | .label _,_,_,_,_,_,e,_=>by simp [cW] at e
 | .goto _,_,_,_,_,_,e,_=>by simp [cW] at e
 | .scope _,_,_,_,_,_,e,_=>by simp [cW] at e
theorem CI {fn:Func} {ms:List MA} {p:List El} {r:MR×List PV} {ob:List Prop} (e:v7 P call it k note fn ms p=some (r,ob)) (h:cM ob):qH P call it (fun g=>bh g k) note fn ms=some r:=by
 simp only [v7,Option.bind_eq_some_iff] at e
 obtain ⟨c,hc,e⟩:=e
 simp only [qH,Option.bind_eq_some_iff]
 refine ⟨c,hc, ?_⟩
 split at e
 · rename_i hfl
   rw [if_pos hfl]
   simp only [Option.bind_eq_some_iff] at e ⊢
   obtain ⟨⟨⟨y,s⟩,p1,l1⟩,h1,e⟩:=e
   have fin:((tR s (jK ms) fn.results.toList).bind fun r=>(look s.bx gk).bind fun cs'=>(di ms).map fun cs=>((r,cs'),(cs'.all cH=true)::(cs'.length=cs.length)::l1))=some (r,ob)→
     cM l1∧((tR s (jK ms) fn.results.toList).bind fun r=>(look s.bx gk).bind fun cs'=>(di ms).bind fun cs=>if cs'.all cH=true∧cs'.length=cs.length then some (r,cs') else none)=some r:=fun e=>by
    simp only [Option.bind_eq_some_iff,Option.map_eq_some_iff,Prod.mk.injEq] at e
    obtain ⟨r1,hr,cs',Qk,cs,hcs,rfl,rfl⟩:=e
    obtain ⟨a1,a2,a3⟩:=h
    refine ⟨a3, ?_⟩
    simp only [hr,Qk,hcs,Option.bind_some]
    rw [if_pos ⟨a1,a2⟩]
   refine ⟨(y,s), ?_, ?_⟩
   · refine cn c _ _ _ _ _ h1 ?_
     cases y<;>cases p1<;>simp only [reduceCtorEq] at e
     all_goals (exact (fin e).1)
   · cases y<;>cases p1<;>simp only [reduceCtorEq] at e
     all_goals (exact (fin e).2)
 · simp at e
theorem BF {rs:List ResultVar} {st:St} {sc:List El} {r:RV} {ob:List Prop} (e:GZ P rs st sc=some (r,ob)) (h:cM ob):jz P st rs=some r:=by
 unfold GZ at e
 split at e
 · simp only [Option.map_eq_some_iff,Prod.mk.injEq] at e
   obtain ⟨_,h1,rfl,_⟩:=e
   exact h1
 · rename_i cs' t
   split at e
   · simp only [Option.map_eq_some_iff,Prod.mk.injEq] at e
     obtain ⟨_,h1,rfl,rfl⟩:=e
     rw [vJ h] at h1
     exact h1
   · simp at e
 · simp at e
theorem DW {fn:Func} {args:List PV} {p:List El} {r:RV} {ob:List Prop} (e:yJ P call it k note fn args p=some (r,ob)) (h:cM ob):ug P call it (fun g=>bh g k) note fn args=some r:=by
 simp only [yJ,Option.bind_eq_some_iff] at e
 obtain ⟨c,hc,⟨⟨y,s⟩,p1,l1⟩,h1,e⟩:=e
 simp only [ug,Option.bind_eq_some_iff]
 refine ⟨c,hc,(y,s), ?_⟩
 cases y with
 |exit j=>simp at e
 |normal=>
  simp only [Option.map_eq_some_iff,Prod.mk.injEq] at e
  obtain ⟨⟨r',l2⟩,h2,rfl,rfl⟩:=e
  exact ⟨cn c _ _ _ _ _ h1 h.app.1,BF h2 h.app.2⟩
 |ret=>
  simp only [Option.map_eq_some_iff,Prod.mk.injEq] at e
  obtain ⟨⟨r',l2⟩,h2,rfl,rfl⟩:=e
  exact ⟨cn c _ _ _ _ _ h1 h.app.1,BF h2 h.app.2⟩
end
end Go.Proofs.YtibbgjafjhcemaaGreatDoor.Cul
namespace Go.Proofs.YtibbgjafjhcemaaGreatDoor.Cul
open Go Go.RowKit
def Gh:List (Nat×(List PV→Option RV))→Nat→List PV→Option RV
 |[],_,_=>none
 |(f,g)::l,x,args=>if f=x then g args else Gh l x args
def AW:List (Nat×(List MA→Option (MR×List PV)))→Nat→List MA→Option (MR×List PV)
 |[],_,_=>none
 |(f,g)::l,x,ms=>if f=x then g ms else AW l x ms
def wW (l:List (Nat×(List PV→Option RV))) (ml:List (Nat×(List MA→Option (MR×List PV)))) (ex:List (Nat×Nat)):Cl:={ fn:=Gh l,mu:=AW ml,ex:=fun f d=>ex.contains (f,d),im:=fun f=>(ml.map (·.1)).contains f}
abbrev bM (l:List (Nat×(List PV→Option RV))):Cl:=wW l [] []
def uc (P:Program) (l:List (Nat×(List PV→Option RV))):Prop:=∀f args r,Gh l f args=some r→az P f args r
def yl (P:Program) (l:List (Nat×(List MA→Option (MR×List PV)))):Prop:=∀f ms r cs',AW l f ms=some (r,cs')→iV P f ms r cs'
theorem aF {P:Program}:uc P []:=fun f args r h=>by simp [Gh] at h
theorem ak {P:Program} {f:Nat} {g:List PV→Option RV} {l:List (Nat×(List PV→Option RV))} (h:∀args r,g args=some r→az P f args r) (hl:uc P l):uc P ((f,g)::l):=by
 intro x args r e
 simp only [Gh] at e
 split at e
 · rename_i hf;exact hf ▸h args r e
 · exact hl x args r e
theorem oS {P:Program}:yl P []:=fun f ms r cs' h=>by simp [AW] at h
theorem p7 {P:Program} {f:Nat} {g:List MA→Option (MR×List PV)} {l:List (Nat×(List MA→Option (MR×List PV)))} (h:∀ms r cs',g ms=some (r,cs')→iV P f ms r cs') (hl:yl P l):yl P ((f,g)::l):=by
 intro x ms r cs' e
 simp only [AW] at e
 split at e
 · rename_i hf;exact hf ▸h ms r cs' e
 · exact hl x ms r cs' e
theorem sE {P:Program} {l:List (Nat×(List PV→Option RV))} {ml:List (Nat×(List MA→Option (MR×List PV)))} {ex:List (Nat×Nat)} (h:uc P l) (hm:yl P ml):aH P (wW l ml ex):=⟨h,hm⟩
theorem aI {P:Program} {l:List (Nat×(List PV→Option RV))} (h:uc P l):aH P (bM l):=⟨h,oS⟩
end Go.Proofs.YtibbgjafjhcemaaGreatDoor.Cul
namespace Go.Proofs.YtibbgjafjhcemaaGreatDoor.Cul
open Go Go.RowKit
def j3:PV→Bool
 | .lit v=>g9 v
 |_=>false
def jq:PV→Bool
 | .ag cs=>cs.all j3
 |p=>j3 p
def lD:PV→Value
 | .lit v=>v
 | .ag cs=> .agg ((cs.map fun| .lit v=>v|_=>undef).toArray)
 |_=>undef
theorem BW {w:World} {Pr:aC}:∀{cs:List PV},cs.all j3=true→aM w Pr cs (cs.map fun| .lit v=>v|_=>undef)∧One (cs.map fun| .lit v=>v|_=>undef)
 |[],_=>⟨.nil,fun v h=>by simp at h⟩
 |p::cs,h=>by
  simp only [List.all_cons,Bool.and_eq_true] at h
  obtain ⟨h1,h2⟩:=BW h.2
  cases p with
  |lit v=>
   have hs:g9 v=true:=h.1
   refine ⟨.cons (.lit hs) h1,fun u hu=> ?_⟩
   simp only [List.map_cons,List.mem_cons] at hu
   rcases hu with rfl|hu
   · cases u<;>simp_all [g9,Value.oneCell']
   · exact h2 u hu
  |_=>simp [j3] at h
theorem xN {w:World} {Pr:aC} {p:PV} (h:jq p=true):Rp w Pr p (lD p):=by
 cases p with
 |lit v=>exact .lit h
 |ag cs=>obtain ⟨h1,h2⟩:=BW (w:=w) (Pr:=Pr) (cs:=cs) h;exact .ag h1 h2
 |_=>simp [jq,j3] at h
theorem BV {w:World} {Pr:aC}:∀{cs:List PV} {vs:List Value},cs.all j3=true→aM w Pr cs vs→vs=(cs.map fun| .lit v=>v|_=>undef)
 |_,_,_, .nil=>rfl
 |_,_,h, .cons h1 hs=>by
  simp only [List.all_cons,Bool.and_eq_true] at h
  rw [BV h.2 hs]
  cases h1 with
  |lit _=>rfl
  |_=>simp [j3] at h
theorem xM {w:World} {Pr:aC} {p:PV} {v:Value} (h:jq p=true) (k:Rp w Pr p v):v=lD p:=by
 cases k with
 |lit _=>rfl
 |ag hr h1=>simp only [lD];rw [BV h hr]
 |_=>simp [jq,j3] at h
theorem vj {w:World} {Pr:aC}:∀{ps:List PV} {vs:List Value},ps.all jq=true→aM w Pr ps vs→vs=ps.map lD
 |_,_,_, .nil=>rfl
 |_,_,h, .cons h1 hs=>by
  simp only [List.all_cons,Bool.and_eq_true] at h
  rw [vj h.2 hs,xM h.1 h1];rfl
theorem vk {w:World} {Pr:aC}:∀{ps:List PV},ps.all jq=true→aM w Pr ps (ps.map lD)
 |[],_=> .nil
 |p::ps,h=>by
  simp only [List.all_cons,Bool.and_eq_true] at h
  exact .cons (xN h.1) (vk h.2)
def IP:AV→AV
 | .pv p=> .pv p
 |_=> .dead
def C0:AV→AV
 | .pv p=>if jq p then .pv p else .dead
 |_=> .dead
def St.only (f:AV→AV) (st:St):St:={ sl:=st.sl.map fun x=>(x.1,f x.2),bx:=[],gr:=[],tg:=[]}
def yf (o:Oper) (st:St):Option (Nat×List PV):=
 match o.op with
 | .call { callee:= .value g,args, .. }=>match st.ev g with
   |some (.pv (.lit (.func (.yield j) _ _)))=>if args.toList.any (fun x=>((st.ev x).map bY).getD true) then none else (eo st args.toList).map (j, ·)
   |_=>none
 |_=>none
section
variable (P:Program) (call:Cl) (note:Nat→eL) (yr:Nat→Bool) (l:Nat) (xs:Nat→List PV) (N:Nat) (fuel:Nat)
def tZ (ops:List Oper):List Oper→St→Option Nat→(St→Option Nat→Prop)→Prop
 |[],st,k,K=>K st k
 |o::r,st,k,K=>match dZ ops o st with
  |some true=>match yf o st with
   |some (j,fU)=>match k with
    |some i=>j=l∧i<N∧fU=xs i∧tZ ops r ((st.only IP).put o.dst (.pv (.lit (.bool true)))) (some (i+1)) K∧tZ ops r ((st.only C0).put o.dst (.pv (.lit (.bool false)))) none K
    |none=>False
   |none=>match kY P call o st with
    |some s=>tZ ops r s k K
    |none=>False
  |some false=>tZ ops r (st.put o.dst fA) k K
  |none=>False
abbrev YT:=(Xt→St→Option Nat→Prop)→Prop
def yE (f:St→Option Nat→YT) (Q:Xt→St→Option Nat→Prop):Nat→St→Option Nat→Prop
 |0,_,_=>False
 |n+1,st,k=>f st k fun x s k'=>match x with
  | .normal=>yE f Q n s k'
  |x=>Q x s k'
def lN:Code→St→Option Nat→YT
 | .skip,st,k,Q=>Q .normal st k
 | .region id ops dr,st,k,Q=>if yr id then dr=false∧tZ P call l xs N ops.toList ops.toList ((note id).still.foldl St.pK st) k (fun s k'=>Q .normal (s.bG (note id).keep) k')
   else match kr P call ops.toList dr ((note id).still.foldl St.pK st) with
    |some s=>Q .normal (s.bG (note id).keep) k
    |none=>False
 | .seq a b,st,k,Q=>lN a st k fun x s k'=>match x with
   | .normal=>lN b s k' Q
   |x=>Q x s k'
 | .cond c t e,st,k,Q=>match st.val c with
   |some (.bool true)=>lN t st k Q
   |some (.bool false)=>lN e st k Q
   |_=>False
 | .block id c,st,k,Q=>lN c st k fun x s k'=>match x with
   | .exit j=>if j=id then Q .normal s k' else Q (.exit j) s k'
   |x=>Q x s k'
 | .loop c,st,k,Q=>yE (lN c) Q fuel st k
 | .exit id,st,k,Q=>Q (.exit id) st k
 | .ret,st,k,Q=>Q .ret st k
 |_,_,_,_=>False
end
section
variable {P:Program} {call:Cl} {note:Nat→eL} {yr:Nat→Bool} {l:Nat} {xs:Nat→List PV} {N fuel:Nat} {n:Nat} {M:Nat} {J:Nat→aC→World→Prop} {Jx:World→Prop}
def jf:ef:=⟨fun _=>none,some []⟩
def YG (J:Nat→aC→World→Prop) (Jx:World→Prop) (M:Nat) (k:Option Nat) (st:St) (a:Act) (W:World):Prop:=
 match k with
 |some i=>∃A Pi,J i Pi A∧A.grownBy W none∧(∀b o,Pi b o→∃v,A.cell? ⟨b,o,none⟩=some v)∧Good A.heap.size A Pi M jf st a W
 |none=>∃A Pi,Jx A∧A.grownBy W none∧Good A.heap.size A Pi M jf st a W
theorem gM {A W W':World} (hg:A.grownBy W none) (h:Below A.heap.size A W'):A.grownBy W' none:=⟨h.os,h.tape,h.output,h.size,fun k hk _=>h.block k hk⟩
theorem Good.below {base:Nat} {w0:World} {aL:aC} {st:St} {a:Act} {w:World} {aT:ef} (G:Good base w0 aL M aT st a w):Below base w0 w:=by
 obtain ⟨_,_,_,h,_⟩:=G;exact h
theorem YG.step {k:Option Nat} {st st':St} {a:Act} {W:World} {c:Code} {R:Exit→Act→World→Prop} {x:Exit} (G:YG J Jx M k st a W)
  (h:∀A Pi,Good A.heap.size A Pi M jf st a W→∀R:Exit→Act→World→Prop,(∀a' W',Good A.heap.size A Pi M jf st' a' W'→R x a' W')→c.wpIn Fence.wide n P R a W)
  (hR:∀a' W',YG J Jx M k st' a' W'→R x a' W'):c.wpIn Fence.wide n P R a W:=by
 cases k with
 |some i=>
  obtain ⟨A,Pi,h1,h2,h3,h4⟩:=G
  exact h A Pi h4 R fun a' W' G'=>hR a' W' ⟨A,Pi,h1,gM h2 G'.below,h3,G'⟩
 |none=>
  obtain ⟨A,Pi,h1,h2,h4⟩:=G
  exact h A Pi h4 R fun a' W' G'=>hR a' W' ⟨A,Pi,h1,gM h2 G'.below,G'⟩
theorem YG.less {k:Option Nat} {st st':St} {a:Act} {W:World} (G:YG J Jx M k st a W) (h:∀base w0 aL,Good base w0 aL M jf st a W→Good base w0 aL M jf st' a W):YG J Jx M k st' a W:=by
 cases k with
 |some i=>obtain ⟨A,Pi,h1,h2,h3,h4⟩:=G;exact ⟨A,Pi,h1,h2,h3,h _ _ _ h4⟩
 |none=>obtain ⟨A,Pi,h1,h2,h4⟩:=G;exact ⟨A,Pi,h1,h2,h _ _ _ h4⟩
theorem YG.any {k:Option Nat} {st:St} {a:Act} {W:World} (G:YG J Jx M k st a W):∃base w0 aL,Good base w0 aL M jf st a W:=by
 cases k with
 |some i=>obtain ⟨A,Pi,h1,h2,h3,h4⟩:=G;exact ⟨_,_,_,h4⟩
 |none=>obtain ⟨A,Pi,h1,h2,h4⟩:=G;exact ⟨_,_,_,h4⟩
theorem xq {W:World} {Pi:aC} {st:St} {a:Act} (hp:∀b o,Pi b o→b<W.heap.size) (hsz:a.tmps.size=M) (hd:a.defers=[]) (de:st.bx=[]) (dJ:st.gr=[]) (EU:st.tg=[])
  (h:∀t av,look st.sl t=some av→∃v,a.tmps[t]? =some v∧(av= .dead∨∃p,av= .pv p∧Rp W Pi p v)):Good W.heap.size W Pi M jf st a W:=by
 have hnl:∀x,¬live st x:=by
  intro x hx
  cases x with
  |bx k=>obtain ⟨cs,h1⟩:=hx;rw [de] at h1;simp [look] at h1
  |sx t=>
   rcases hx with ⟨sz,n,cs,h1⟩|⟨z,h1⟩
   · obtain ⟨v,_,h2|⟨p,h2,_⟩⟩:=h t _ h1<;>simp at h2
   · rw [dJ] at h1;simp [aG] at h1
  |cx k o=>obtain ⟨z,h1⟩:=hx;rw [dJ] at h1;simp [aG] at h1
 refine ⟨Pi,fun _=>0, ?_,Below.refl _ _,fun _ _ _ h=>h,KO.refl _,fun k b e=>by simp [jf] at e,fun _ _ _ h1 h2=>⟨h1,h2⟩,fun ds e=>by simp only [jf,Option.some.injEq] at e;rw [hd,e]⟩
 constructor
 · exact hsz
 · rw [hd];exact ⟨by simp,List.nodup_nil⟩
 · exact Nat.le_refl _
 · exact hp
 · intro t av ht
   obtain ⟨v,hv,h2⟩:=h t av ht
   refine ⟨v,hv, ?_⟩
   rcases h2 with rfl|⟨p,rfl,hr⟩
   · trivial
   · exact hr
 · exact fun x hx=>absurd hx (hnl x)
 · exact fun x _ hx=>absurd hx (hnl x)
 · intro k cs h1;rw [de] at h1;simp [look] at h1
 · intro t z h1;rw [dJ] at h1;simp [aG] at h1
 · intro k i z h1;rw [dJ] at h1;simp [aG] at h1
 · intro t q h1;rw [EU] at h1;simp [look] at h1
theorem xH (f:AV→AV) (st:St) (t:Nat):look (st.only f).sl t=(look st.sl t).map f:=bQ (fun x=>(x.1,f x.2)) (fun _ v=>f v) (fun _=>rfl) st.sl t
theorem Dr {o:Oper} {a:Act} {W:World} {K:Act→World→Prop} {Q:Exit→Act→World→Prop} {g:Operand} {args:Array Operand} {ts:Array TypeId} {fi ca:Array Value} {R:Ending→World→Prop}
  (ho:o.op= .call { callee:= .value g,args:=args,argTypes:=ts}) (hg:a.eval g= .func (.yield l) fi ca) (hf:fi= #[]) (hy:YieldAt Fence.wide (n - 1) P l (args.map a.eval) W R)
  (hR:∀e W',R e W'→∃v,e= .returned v∧K (a.put o.dst v) W'):o.wpIn Fence.wide n P a W K Q:=by
 refine ⟨fun f _=>trivial, ?_⟩
 rw [Oper.semAt_plain Fence.wide _ _ (fun c h=>by rw [ho] at h;simp at h)]
 obtain ⟨fn,tmps,assign,body,h1,h2⟩:=hy
 have:(execOp a.eval o).run P W= .ok (.round l fn tmps assign body) W:=by
  subst hf
  simp [execOp,ho,resolve,hg,Deferred.ofValue,invoke,h1]
 rw [this,Oper.uponIn_round]
 refine ⟨fun h=>by simp [Fence.wide] at h,h2.mono fun e W' h=> ?_⟩
 obtain ⟨v,rfl,hk⟩:=hR e W' h
 exact hk
end
end Go.Proofs.YtibbgjafjhcemaaGreatDoor.Cul
namespace Go.Proofs.YtibbgjafjhcemaaGreatDoor.Cul
open Go Go.RowKit
section
variable {P:Program} {call:Cl} {note:Nat→eL} {yr:Nat→Bool} {l:Nat} {xs:Nat→List PV} {N fuel:Nat} {n:Nat} {M:Nat} {J:Nat→aC→World→Prop} {Jx:World→Prop}
structure YP (P:Program) (n l N:Nat) (xs:Nat→List PV) (J:Nat→aC→World→Prop) (Jx:World→Prop):Prop where
 grow:∀k Pi A B,J k Pi A→A.grownBy B none→J k (Pi.plus A B) B
 X3:∀A B,Jx A→A.grownBy B none→Jx B
 plain:∀k,k<N→(xs k).all jq=true
 round:∀k Pi W1,J k Pi W1→k<N→YieldAt Fence.wide (n - 1) P l ((xs k).map lD).toArray W1 fun e W'=>(e= .returned (.bool true)∧J (k+1) Pi W'∧ia Pi W1 W'∧W1.heap.size≤W'.heap.size)∨(e= .returned (.bool false)∧Jx W')
theorem Ar {a:Act} {d:Option Tmp} {v:Value}:(a.put d v).defers=a.defers:=by cases d<;>rfl
theorem zh {W:World} {Pi:aC} {st:St} {a:Act} {d:Option Tmp} {b:Bool} (hN:∀t,d=some t→t<M) (hp:∀b o,Pi b o→b<W.heap.size) (hsz:a.tmps.size=M) (hd:a.defers=[]) (f:AV→AV)
  (h:∀t av,look (st.only f).sl t=some av→∃v,a.tmps[t]? =some v∧(av= .dead∨∃p,av= .pv p∧Rp W Pi p v)):Good W.heap.size W Pi M jf ((st.only f).put d (.pv (.lit (.bool b)))) (a.put d (.bool b)) W:=by
 cases d with
 |none=>exact xq hp hsz hd rfl rfl rfl h
 |some t=>
  have ht:=hN t rfl
  refine xq hp (by simp [Act.put,hsz]) (by rw [Ar];exact hd) rfl rfl (by simp [St.put,St.only,bF]) fun u av hu=> ?_
  rw [jD] at hu
  rw [ck (by rw [hsz];exact ht)]
  by_cases e:u=t
  · rw [if_pos e] at hu ⊢
    simp only [Option.map_some,Option.some.injEq] at hu
    refine ⟨_,rfl, ?_⟩
    rw [←hu]
    simp only [bn]
    exact .inr ⟨_,rfl, .lit rfl⟩
  · rw [if_neg e] at hu ⊢
    cases hq:look (st.only f).sl u with
    |none=>rw [hq] at hu;simp at hu
    |some y=>
     rw [hq] at hu
     simp only [Option.map_some,Option.some.injEq] at hu
     obtain ⟨v,hv,h2⟩:=h u y hq
     refine ⟨v,hv, ?_⟩
     split at hu
     · exact .inl hu.symm
     · rw [←hu];exact h2
theorem pg (hC:aH P call) (Y:YP P n l N xs J Jx) {ops:Array Oper} {Q:Exit→Act→World→Prop} {K:St→Option Nat→Prop} (hQ:∀st k a W,K st k→YG J Jx M k st a W→Q .normal a W):
  ∀(r:List Oper) (st:St) (k:Option Nat) (a:Act) (W:World),(∀o∈r,∀d,o.dst=some d→d<M)→YG J Jx M k st a W→tZ P call l xs N ops.toList r st k K→wpListIn Fence.wide n P ops Q r a W
 |[],st,k,a,W,hN,G,h=>hQ st k a W h G
 |o::r,st,k,a,W,hN,G,h=>by
  have IX:∀o∈r,∀d,o.dst=some d→d<M:=fun o' ho'=>hN o' (List.mem_cons_of_mem _ ho')
  simp only [tZ] at h
  refine wpListIn_step fun K2 hK=> ?_
  obtain ⟨X2,YJ,Ya,G0⟩:=G.any
  obtain ⟨Yh,Yi,I,Yk⟩:=G0
  split at h
  · rename_i hw
    rw [if_pos (lF (ops:=ops) I hw)]
    split at h
    ·
     rename_i j0 fU has
     split at h
     · rename_i i
       obtain ⟨hjl,hi,hxs,ht,hf⟩:=h
       unfold yf at has
       split at has
       · rename_i g args ts ho
         split at has
         · rename_i j fi ca EF
           · split at has
             · simp at has
             · rename_i hlo
               simp only [Option.map_eq_some_iff,Prod.mk.injEq] at has
               obtain ⟨as',has,hj0,rfl⟩:=has
               rw [hj0,hjl] at EF
               obtain ⟨A,Pi,hJ,hg,hex,lJ,yS,I1,fk,UC,Yc,_,Yb,oK⟩:=G
               have LS:a.defers=[]:=oK [] rfl
               have sS:=eH I1 EF
               have hsc:fi= #[]∧a.eval g= .func (.yield l) fi ca:=by
                cases hge:a.eval g<;>rw [hge] at sS<;>cases sS
                rename_i hs
                simp only [g9,Bool.and_eq_true,Array.isEmpty_iff] at hs
                exact ⟨hs.1,rfl⟩
               have hargs:=jV I1 (by simpa using hlo) has
               rw [hxs] at hargs
               have Oi:=vj (Y.plain i hi) hargs
               have TZ:=Y.grow i Pi A W hJ hg
               have hy:=Y.round i _ W TZ hi
               have Qg:args.map a.eval=((xs i).map lD).toArray:=by
                rw [←Oi];exact Array.ext' (by simp)
               rw [←Qg] at hy
               refine Dr ho hsc.2 hsc.1 hy ?_
               rintro e W' (⟨rfl,T1,hkeep,hsize⟩|⟨rfl,T5⟩)
               · refine ⟨_,rfl,hK _ _ (pg hC Y hQ r _ _ _ W' IX ?_ ht)⟩
                 have C4:∀b o,Pi.plus A W b o→∃v,W.cell? ⟨b,o,none⟩=some v:=fun b o h=>by
                  rcases h with h|⟨_,v,h⟩
                  · obtain ⟨v,hv⟩:=hex b o h
                    exact ⟨v,(fk.cell (p:=⟨b,o,none⟩) (rW hv)).trans hv⟩
                  · exact ⟨v,h⟩
                 have wE:Carry W lJ W' (Pi.plus A W):=fun b o v h1 h2=>by
                  have O2:Pi.plus A W b o:=by
                   by_cases hlt:b<A.heap.size
                   · exact .inl (UC b o hlt h1)
                   · exact .inr ⟨by omega,v,h2⟩
                  exact ⟨O2,hkeep b o v O2 h2⟩
                 refine ⟨W',_,T1,⟨rfl,rfl,rfl,Nat.le_refl _,fun _ _ _=>rfl⟩,fun b o h=> ?_, ?_⟩
                 · obtain ⟨v,hv⟩:=C4 b o h
                   exact ⟨v,hkeep b o v h hv⟩
                 · refine zh (hN o (by simp)) (fun b o h=> ?_) I1.size LS IP fun t av kg=> ?_
                   · obtain ⟨v,hv⟩:=C4 b o h
                     exact Nat.lt_of_lt_of_le (rW hv) hsize
                   · rw [xH] at kg
                     cases hq:look st.sl t with
                     |none=>rw [hq] at kg;simp at kg
                     |some y=>
                      rw [hq] at kg
                      simp only [Option.map_some,Option.some.injEq] at kg
                      obtain ⟨v,hv,h2⟩:=I1.slots t y hq
                      refine ⟨v,hv, ?_⟩
                      cases y with
                      |pv p=>exact .inr ⟨p,kg.symm,Rp.carry wE h2⟩
                      |_=>exact .inl kg.symm
               · refine ⟨_,rfl,hK _ _ (pg hC Y hQ r _ _ _ W' IX ?_ hf)⟩
                 refine ⟨W',fun _ _=>False,T5,⟨rfl,rfl,rfl,Nat.le_refl _,fun _ _ _=>rfl⟩, ?_⟩
                 refine zh (hN o (by simp)) (fun b o h=>h.elim) I1.size LS C0 fun t av kg=> ?_
                 rw [xH] at kg
                 cases hq:look st.sl t with
                 |none=>rw [hq] at kg;simp at kg
                 |some y=>
                  rw [hq] at kg
                  simp only [Option.map_some,Option.some.injEq] at kg
                  obtain ⟨v,hv,h2⟩:=I1.slots t y hq
                  refine ⟨v,hv, ?_⟩
                  cases y with
                  |pv p=>
                   simp only [C0] at kg
                   split at kg
                   · rename_i oN
                     refine .inr ⟨p,kg.symm, ?_⟩
                     rw [xM oN h2]
                     exact xN oN
                   · exact .inl kg.symm
                  |_=>exact .inl kg.symm
         · simp at has
       · simp at has
     · exact h.elim
    ·
     split at h
     · rename_i s hs
       have L2:∀a' W',YG J Jx M k s a' W'→K2 a' W':=fun a' W' G'=>hK a' W' (pg hC Y hQ r s k a' W' IX G' h)
       cases k with
       |some i=>
        obtain ⟨A,Pi,h1,h2,h3,lJ,yS,I1,gV⟩:=G
        exact mq jJ (jT hs) (Good.step gV (fun _ _=>rfl) (uj hC I1 (hN o (by simp)) hs) fun a' W' G'=>L2 a' W' ⟨A,Pi,h1,gM h2 (Good.below G'),h3,G'⟩)
       |none=>
        obtain ⟨A,Pi,h1,h2,lJ,yS,I1,gV⟩:=G
        exact mq jJ (jT hs) (Good.step gV (fun _ _=>rfl) (uj hC I1 (hN o (by simp)) hs) fun a' W' G'=>L2 a' W' ⟨A,Pi,h1,gM h2 (Good.below G'),G'⟩)
     · exact h.elim
  · rename_i hw
    rw [if_neg (by rw [lF (ops:=ops) I hw];simp)]
    refine ⟨fun f _=>trivial,hK _ _ (pg hC Y hQ r _ k _ W IX ?_ h)⟩
    have skip:∀base w0 aL,Good base w0 aL M jf st a W→Good base w0 aL M jf (st.put o.dst fA) (a.put o.dst undef) W:=fun base w0 aL ⟨lJ,yS,I1,gV⟩=>by
     obtain ⟨aN,I',hbk⟩:=wV I1 (hN o (by simp))
     exact ⟨lJ,aN,I',gV.1,gV.2.1,gV.2.2.1,fun k b e=>by simp [jf] at e,gV.2.2.2.2.1,fun ds e=>by rw [Ar];exact gV.2.2.2.2.2 ds e⟩
    cases k with
    |some i=>obtain ⟨A,Pi,h1,h2,h3,h4⟩:=G;exact ⟨A,Pi,h1,h2,h3,skip _ _ _ h4⟩
    |none=>obtain ⟨A,Pi,h1,h2,h4⟩:=G;exact ⟨A,Pi,h1,h2,skip _ _ _ h4⟩
  · exact h.elim
end
end Go.Proofs.YtibbgjafjhcemaaGreatDoor.Cul
namespace Go.Proofs.YtibbgjafjhcemaaGreatDoor.Cul
open Go Go.RowKit
section
variable {P:Program} {call:Cl} {note:Nat→eL} {yr:Nat→Bool} {l:Nat} {xs:Nat→List PV} {N fuel:Nat} {n:Nat} {M:Nat} {J:Nat→aC→World→Prop} {Jx:World→Prop}
theorem vX {c:Code} {f:St→Option Nat→YT} {Q:Xt→St→Option Nat→Prop} {R:Exit→Act→World→Prop}
  (hf:∀st k Q a W (R:Exit→Act→World→Prop),f st k Q→YG J Jx M k st a W→(∀x s k' a' W',Q x s k'→YG J Jx M k' s a' W'→R (toExit x) a' W')→c.wpIn Fence.wide n P R a W)
  (hR:∀x s k' a' W',Q x s k'→YG J Jx M k' s a' W'→R (toExit x) a' W'):
  ∀(m:Nat) (st:St) (k:Option Nat) (a:Act) (W:World),yE f Q m st k→YG J Jx M k st a W→Code.roundsIn Fence.wide n P c R m a W
 |0,st,k,a,W,h,G=>h.elim
 |m+1,st,k,a,W,h,G=>by
  simp only [yE] at h
  rw [roundsIn_succ]
  refine hf st k _ a W _ h G fun x s k' a' W' hq G'=> ?_
  cases x with
  |normal=>exact vX hf hR m s k' a' W' hq G'
  |exit id=>exact hR _ s k' a' W' hq G'
  |ret=>exact hR _ s k' a' W' hq G'
theorem YG.val {k:Option Nat} {st:St} {a:Act} {W:World} (G:YG J Jx M k st a W) {x:Operand} {v:Value} (h:st.val x=some v):a.eval x=v:=by
 obtain ⟨_,_,_,G⟩:=G.any
 exact G.val h
theorem nv (hC:aH P call) (hm:P.follows .mixedOrders=true) (Y:YP P n l N xs J Jx):∀(c:Code),bN M c=true→∀(st:St) (k:Option Nat) (Q:Xt→St→Option Nat→Prop) (a:Act) (W:World) (R:Exit→Act→World→Prop),
  lN P call note yr l xs N fuel c st k Q→YG J Jx M k st a W→(∀x s k' a' W',Q x s k'→YG J Jx M k' s a' W'→R (toExit x) a' W')→c.wpIn Fence.wide n P R a W
 | .skip,_,st,k,Q,a,W,R,h,G,hR=>wpIn_skip (hR .normal st k a W h G)
 | .region id ops dr,hok,st,k,Q,a,W,R,h,G,hR=>by
   have Gs:YG J Jx M k ((note id).still.foldl St.pK st) a W:=G.less fun _ _ _ g=>Good.vK _ g
   simp only [lN] at h
   split at h
   · obtain ⟨rfl,h⟩:=h
     simp only [bN,lX,Bool.and_eq_true] at hok
     refine wpIn_region_list (pg hC Y (fun s k' a' W' hq G'=>hR .normal _ k' a' W' hq (G'.less fun _ _ _ g=>g.bG _)) ops.toList _ k a W (fun o ho d hd=> ?_) Gs h)
     have:=List.all_eq_true.1 hok.1 o ho
     rw [hd] at this;simpa using this
   · split at h
     · rename_i s hs
       exact Gs.step (x:= .normal) (fun A Pi g R T9=>xQ jJ n hC hm hok (fun _ _ _ _=>rfl) g hs T9) fun a' W' G'=>hR .normal _ k a' W' h (G'.less fun _ _ _ g=>g.bG _)
     · exact h.elim
 | .seq p q,hok,st,k,Q,a,W,R,h,G,hR=>by
   simp only [bN,Bool.and_eq_true] at hok
   simp only [lN] at h
   refine wpIn_seq (nv hC hm Y p hok.1 st k _ a W _ h G fun x s k' a' W' hq G'=> ?_)
   cases x with
   |normal=>exact nv hC hm Y q hok.2 s k' Q a' W' R hq G' hR
   |exit id=>exact hR _ s k' a' W' hq G'
   |ret=>exact hR _ s k' a' W' hq G'
 | .cond c t e,hok,st,k,Q,a,W,R,h,G,hR=>by
   simp only [bN,Bool.and_eq_true] at hok
   simp only [lN] at h
   split at h
   · rename_i hv
     exact wpIn_cond_true (G.val hv) (nv hC hm Y t hok.1 st k Q a W R h G hR)
   · rename_i hv
     exact wpIn_cond_false (G.val hv) (nv hC hm Y e hok.2 st k Q a W R h G hR)
   · exact h.elim
 | .block id c,hok,st,k,Q,a,W,R,h,G,hR=>by
   simp only [bN] at hok
   simp only [lN] at h
   refine wpIn_block (nv hC hm Y c hok st k _ a W _ h G fun x s k' a' W' hq G'=> ?_)
   cases x with
   |normal=>exact hR .normal s k' a' W' hq G'
   |exit j=>
    simp only [toExit,Exit.inBlock]
    simp only at hq
    split at hq
    · rename_i hj;rw [if_pos hj];exact hR .normal s k' a' W' hq G'
    · rename_i hj;rw [if_neg hj];exact hR (.exit j) s k' a' W' hq G'
   |ret=>exact hR .ret s k' a' W' hq G'
 | .loop c,hok,st,k,Q,a,W,R,h,G,hR=>by
   simp only [bN] at hok
   simp only [lN] at h
   exact wpIn_loop_rounds fuel (vX (f:=lN P call note yr l xs N fuel c) (fun st k Q a W R h G hR=>nv hC hm Y c hok st k Q a W R h G hR) hR fuel st k a W h G)
 | .rangeFunc ..,_,st,k,Q,a,W,R,h,G,hR=>h.elim
 | .exit id,_,st,k,Q,a,W,R,h,G,hR=>wpIn_exit (hR (.exit id) st k a W h G)
 | .ret,_,st,k,Q,a,W,R,h,G,hR=>wpIn_ret (hR .ret st k a W h G)
 | .label _,hok,_,_,_,_,_,_,_,_,_=>by simp [bN] at hok
 | .goto _,hok,_,_,_,_,_,_,_,_,_=>by simp [bN] at hok
end
def IG (N:Nat):Xt→St→Option Nat→Prop
 | .exit _,_,_=>False
 |_,_,k=>k=none∨k=some N
def yv (l:Nat):PV:= .lit (.func (.yield l) #[] #[])
theorem Bb {P:Program} {call:Cl} (hC:aH P call) (hm:P.follows .mixedOrders=true) {f:Nat} {fn:Func} {c:Code} (hf:P.funcs[f]? =some fn) (hb:fn.body=some c) (hok:bN fn.ntmps c=true) (hnm:(fn.name== "runtime.NumGoroutine")=false) (hres:fn.results= #[])
  {note:Nat→eL} {yr:Nat→Bool} {fuel k:Nat} {caps:List PV} {xs:List (List PV)} (hlen:∀x∈xs,x.length=k∧x.all jq=true)
  (h:∀l,lN P call note yr l (fun i=>xs.getD i []) xs.length fuel c (.enter (yv l::caps)) (some 0) (IG xs.length)):
  ov P f∧∀(vs:List Value) (w:World) (Pr:aC),(∀b o,Pr b o→b<w.heap.size)→aM w Pr caps vs→
  ∃enc:Nat→List Value,(∀i x,xs[i]? =some x→(enc i).length=k∧∀W aD,aM W aD x (enc i))∧∀n,1≤n→CA P n f vs.toArray (fun i=>(enc i).toArray) xs.length Pr w:=by
 refine ⟨⟨fn,c,hf,hb,hnm⟩,fun vs w Pr hp hr=>⟨fun i=>(xs.getD i []).map lD,fun i x hx=> ?_,fun n hn l J Jx W iE hgrow EG Mn h0=> ?_⟩⟩
 · have hm:=List.mem_of_getElem? hx
   have hg:xs.getD i []=x:=by rw [List.getD_eq_getElem?_getD,hx];rfl
   simp only [hg]
   exact ⟨by rw [List.length_map];exact (hlen x hm).1,fun W aD=>vk (hlen x hm).2⟩
 · have Y:YP P n l xs.length (fun i=>xs.getD i []) J Jx:=⟨hgrow,EG,fun i hi=>(hlen _ (by
     rw [List.getD_eq_getElem?_getD,List.getElem?_eq_getElem hi];exact List.getElem_mem hi)).2,fun i Pi W1 hJ hi=>Mn i Pi W1 hJ hi⟩
   refine callsIn_of_wp hf hb trivial ?_ rfl
   have wE:Carry w Pr W (Pr.here w):=fun b o v h1 h2=>⟨⟨h1,v,h2⟩,(iE.cell (p:=⟨b,o,none⟩) (hp b o h1)).trans h2⟩
   have hrl:aM W (Pr.here w) (yv l::caps) ((.func (.yield l) #[] #[])::vs):= .cons (.lit rfl) (aM.carry wE hr)
   have uS:∀b o,Pr.here w b o→b<W.heap.size:=fun b o h=>Nat.lt_of_lt_of_le (hp b o h.1) iE.size
   have I0:=qQ uS hrl (fn.ntmps - (#[Value.func (.yield l) #[] #[]]++vs.toArray).size)
   have C4:∀b o,Pr.here w b o→∃v,W.cell? ⟨b,o,none⟩=some v:=fun b o h=>by
    obtain ⟨v,hv⟩:=h.2
    exact ⟨v,(iE.cell (p:=⟨b,o,none⟩) (hp b o h.1)).trans hv⟩
   have Mg:bN ((Value.func (.yield l) #[] #[]::vs).length+(fn.ntmps - (#[Value.func (.yield l) #[] #[]]++vs.toArray).size)) c=true:=cZ (by simp;omega) hok
   have G:YG J Jx ((Value.func (.yield l) #[] #[]::vs).length+(fn.ntmps - (#[Value.func (.yield l) #[] #[]]++vs.toArray).size)) (some 0) (.enter (yv l::caps)) { tmps:=(Value.func (.yield l) #[] #[]::vs).toArray++Array.replicate (fn.ntmps - (#[Value.func (.yield l) #[] #[]]++vs.toArray).size) undef,defers:=[]} W:=
    ⟨W,_,h0,⟨rfl,rfl,rfl,Nat.le_refl _,fun _ _ _=>rfl⟩,C4,_,_,I0,Below.refl _ _,fun _ _ _ h=>h,KO.refl _,fun k b e=>by simp [jf] at e,fun _ _ _ h1 h2=>⟨h1,h2⟩,fun ds e=>by simpa [jf] using e⟩
   have hargs: #[Value.func (.yield l) #[] #[]]++vs.toArray=(Value.func (.yield l) #[] #[]::vs).toArray:=Array.ext' (by simp)
   rw [hargs]
   rw [hargs] at G Mg
   refine nv hC hm Y c Mg _ _ _ _ W _ (h l) G fun x s k' a' W' hq G'=> ?_
   have hd:a'.defers=[]:=by
    obtain ⟨_,_,_,_,_,_,_,_,_,_,_,hd⟩:=G'.any
    exact hd [] rfl
   have fin:(k'=none∨k'=some xs.length)→(∃v,Ending.returned (.tuple #[])= .returned v)∧((∃Pi,J xs.length Pi W')∨Jx W'):=fun hk=>by
    refine ⟨⟨_,rfl⟩, ?_⟩
    rcases hk with rfl|rfl
    · obtain ⟨A,Pi,h1,h2,_⟩:=G'
      exact .inr (EG _ _ h1 h2)
    · obtain ⟨A,Pi,h1,h2,_⟩:=G'
      exact .inl ⟨_,hgrow _ _ _ _ h1 h2⟩
   cases x with
   |exit id=>exact hq.elim
   |normal=>exact ⟨hd,_,results_none hres _ _ _,fin hq⟩
   |ret=>exact ⟨hd,_,results_none hres _ _ _,fin hq⟩
end Go.Proofs.YtibbgjafjhcemaaGreatDoor.Cul
namespace Go.Proofs.YtibbgjafjhcemaaGreatDoor.Cul
open Go Go.RowKit
def aA (M:jy) (S:Cl) (k f:Nat) (args:List PV) (s:List El):Option (RV×List Prop):=
 (M.P.funcs[f]?).bind fun fn=>yJ M.P S M.iter k (M.note f) fn args s
theorem aj {M:jy} (hM:qE M) {S:Cl} (hC:aH M.P S) {k f:Nat} {args:List PV} {s:List El} {r:RV} {ob:List Prop} (hp:M.tU f=none) (h:aA M S k f args s=some (r,ob)) (ho:cM ob):az M.P f args r:=by
 simp only [aA,Option.bind_eq_some_iff] at h
 obtain ⟨fn,hfn,h⟩:=h
 exact yK hC hM.kQ hM.jo hfn (hM.fns f fn hfn hp) (DW h ho)
def l8 (M:jy) (S:Cl) (k f:Nat) (ms:List MA) (s:List El):Option ((MR×List PV)×List Prop):=
 (M.P.funcs[f]?).bind fun fn=>v7 M.P S M.iter k (M.note f) fn ms s
theorem jE {M:jy} (hM:qE M) {S:Cl} (hC:aH M.P S) {k f:Nat} {ms:List MA} {s:List El} {r:MR} {cs':List PV} {ob:List Prop} (hp:M.tU f=none) (h:l8 M S k f ms s=some ((r,cs'),ob)) (ho:cM ob):iV M.P f ms r cs':=by
 simp only [l8,Option.bind_eq_some_iff] at h
 obtain ⟨fn,hfn,h⟩:=h
 exact z7 hC hM.kQ hM.jo hfn (hM.fns f fn hfn hp) (CI h ho)
def kE:Code→List Code
 | .seq a b| .cond _ a b=>kE a++kE b
 | .block _ c=>kE c
 | .loop c=>c::kE c
 | .rangeFunc _ _ a b=>kE a++kE b
 |_=>[]
def zV (M:jy) (f j:Nat):Code:=((kE ((((M.P.funcs[f]?).bind (·.body))).getD .skip))[j]?).getD .skip
noncomputable def aU (M:jy) (S:Cl) (k f j:Nat) (st:St):Option (Xt×St):=cV M.P S M.iter (fun g=>bh g k) (M.note f) (zV M f j) st
def ay (M:jy) (S:Cl) (k f j:Nat) (st:St) (s:List El):Option (Ow (Xt×St)):=cW M.P S M.iter k (M.note f) (zV M f j) st s
theorem aq {M:jy} {S:Cl} {k f j:Nat} {st:St} {s s':List El} {x:Xt×St} {ob:List Prop} (h:ay M S k f j st s=some (x,s',ob)) (ho:cM ob):aU M S k f j st=some x:=cn _ _ _ _ _ _ h ho
abbrev aX (M:jy) (S:Cl) (k f j:Nat) (st:St) (x:Xt) (s1:St):Prop:=yG M.P S M.iter k (M.note f) (zV M f j) st x s1
theorem bz {f:St→Option (Xt×St)} {n:Nat} {st s:St} {r:Xt×St} (h:f st=some (.normal,s)) (k:bh f n s=some r):bh f (n+1) st=some r:=by
 simp only [bh,h,Option.bind_some];exact k
theorem aW {f:St→Option (Xt×St)} {n:Nat} {st s:St} {x:Xt} (h:f st=some (x,s)) (hx:x≠ .normal):bh f (n+1) st=some (x,s):=by
 simp only [bh,h,Option.bind_some]
 cases x with
 |normal=>exact absurd rfl hx
 |_=>rfl
theorem bR {f:St→Option (Xt×St)}:∀{n m:Nat} {st:St} {r:Xt×St},n≤m→bh f n st=some r→bh f m st=some r
 |0,_,_,_,_,h=>by simp [bh] at h
 |n+1,0,_,_,hl,_=>by omega
 |n+1,m+1,st,r,hl,h=>by
  simp only [bh,Option.bind_eq_some_iff] at h ⊢
  obtain ⟨⟨y,s⟩,h1,h2⟩:=h
  refine ⟨(y,s),h1, ?_⟩
  cases y with
  |normal=>exact bR (by omega) h2
  |_=>exact h2
theorem bK {f:St→Option (Xt×St)} {S:Nat→St} {n:Nat} (h:∀i,i<n→f (S i)=some (.normal,S (i+1))) {r:Xt×St} (hr:f (S n)=some r) (hx:r.1≠ .normal):∀m,n<m→bh f m (S 0)=some r:=by
 have key:∀d i,i+d=n→bh f (d+1) (S i)=some r:=by
  intro d
  induction d with
  |zero=>intro i hi;have:i=n:=by omega
         subst this;obtain ⟨x,s⟩:=r;exact aW hr hx
  |succ d ih=>intro i hi;exact bz (h i (by omega)) (ih (i+1) (by omega))
 exact fun m hm=>bR hm (key n 0 (by omega))
def iv (x:Int):PV:= .lit (.int .i64 x)
def bv (b:Bool):PV:= .lit (.bool b)
def ai (x:Nat):PV:= .lit (.int .u32 (x:Int))
abbrev one (p:PV):RV:=⟨p,none⟩
def AO (g:Int→Int):List PV→Option RV
 |[.lit (.int .i64 x)]=>some (one (iv (g x)))
 |_=>none
def PW (p:PV):List PV→Option RV
 |[]=>some (one p)
 |_=>none
theorem Cq {P:Program} {f:Nat} {g:Int→Int} (h:∀x,az P f [iv x] (one (iv (g x)))):∀args r,AO g args=some r→az P f args r:=by
 intro args r e
 unfold AO at e
 split at e
 · simp only [Option.some.injEq] at e;subst e;exact h _
 · simp at e
end Go.Proofs.YtibbgjafjhcemaaGreatDoor.Cul
namespace Go.Proofs.YtibbgjafjhcemaaGreatDoor.Cul
open Go Go.RowKit Go.ChangeShapes Go.WideShapes Go.ChangeAt
open Go.Proofs.YtibbgjafjhcemaaGreatDoor
mutual
def CX:DataW Unit→List Value
 | .lit l=>[l.value]
 | .agg ps=>Ev ps
 |_=>[]
def Ev:List (DataW Unit)→List Value
 |[]=>[]
 |d::r=>CX d++Ev r
end
theorem Rx:ownKnob Go.Proofs.Tryz.prog.godebug=none:=by kernel_rfl
def xm (cs:List Value):Obj→Obj
 | .cells _ t fz=> .cells cs.toArray t fz
 |o=>o
noncomputable def nL (os:Os) (args:Array Value):World:=
 let w:=World.holding Go.Proofs.Tryz.prog os ⟨#[], #[],[]⟩
 { w with heap:=(w.heap.modify 1 (xm (CX Rows.laid_unicode_utf8_first))).modify 2 (xm (CX Rows.laid_unicode_utf8_acceptRanges))}
def Oj:List (String×DataW Unit):=[("unicode/utf8.acceptRanges",Rows.laid_unicode_utf8_acceptRanges),("unicode/utf8.first",Rows.laid_unicode_utf8_first)]
theorem zR (os:Os):laidMet Go.Proofs.Tryz.prog Oj ((nL os #[]).forCall (fun _ _=>0) ⟨#[], #[],[]⟩).memory:=
 laidMet_of_run' 8 (by kernel_rfl) (by kernel_rfl)
end Go.Proofs.YtibbgjafjhcemaaGreatDoor.Cul
namespace Go.Proofs.YtibbgjafjhcemaaGreatDoor.Cul
open Go Go.RowKit
noncomputable abbrev P0:Program:=Go.Proofs.Tryz.prog
def R2:List (Nat×List (Nat×eL)):=[
(2,[(0,{ keep:=[]})]),
(3,[(0,{ keep:=[1,2]}),(1,{ keep:=[1,2,16]}),(2,{ keep:=[4]}),(3,{ keep:=[4]})]),
(4,[(0,{ keep:=[2,3]}),(1,{ keep:=[2,3,22]}),(2,{ keep:=[4]}),(3,{ keep:=[2,3,5,6]}),(4,{ keep:=[2,3,5,6,7,8]}),(5,{ keep:=[2,3,5,6,42]}),(6,{ keep:=[4]}),(7,{ keep:=[2,3,5,44]}),(8,{ keep:=[4]}),(9,{ keep:=[2,3,5,9,10]}),(10,{ keep:=[4]})]),
(5,[(0,{ keep:=[]}),(1,{ keep:=[1,2]}),(2,{ keep:=[0]})]),
(6,[(0,{ keep:=[1,2]}),(1,{ keep:=[4]})]),
(7,[(0,{ keep:=[1]}),(1,{ keep:=[2]})]),
(8,[(0,{ keep:=[1,2]}),(1,{ keep:=[1,2,5]}),(2,{ keep:=[2]}),(3,{ keep:=[2]})]),
(9,[(0,{ keep:=[1,2,4]}),(1,{ keep:=[1,2,4,9]}),(2,{ keep:=[4]}),(3,{ keep:=[2,4,5,6]}),(4,{ keep:=[4]})]),
(10,[(0,{ keep:=[1]}),(1,{ keep:=[1,3]}),(2,{ keep:=[1,3,8]}),(3,{ keep:=[1,3]}),(4,{ keep:=[1,3,18]}),(5,{ keep:=[2]}),(6,{ keep:=[2]})]),
(11,[(0,{ keep:=[1]}),(1,{ keep:=[2]})]),
(12,[(0,{ keep:=[1,2]}),(1,{ keep:=[1,2,11]}),(2,{ keep:=[2,3]}),(3,{ keep:=[1,2,4]}),(4,{ keep:=[2,4,14,15,16]}),(5,{ keep:=[2,4,14,15,16,17]}),(6,{ keep:=[2,4,6,14,15,16]}),(7,{ keep:=[2,4,7,14,15,16]}),(8,{ keep:=[2,4,14,15,16]}),(9,{ keep:=[2,4,14,15,16]}),(10,{ keep:=[2,3]})]),
(13,[(0,{ keep:=[1,2]}),(1,{ keep:=[1,2,10]}),(2,{ keep:=[2,3]}),(3,{ keep:=[1,2,4]}),(4,{ keep:=[1,2,4,5]}),(5,{ keep:=[1,2,4,5,16]}),(6,{ keep:=[1,2,4,5]}),(7,{ keep:=[1,2,4,5,6]}),(8,{ keep:=[1,2,4,5]}),(9,{ keep:=[2,3]})]),
(14,[(0,{ keep:=[2,3]}),(1,{ keep:=[2,3,30]}),(2,{ keep:=[4]}),(3,{ keep:=[2,3,5]}),(4,{ keep:=[2,3,5,35]}),(5,{ keep:=[2,3,5]}),(6,{ keep:=[2,3,5,48]}),(7,{ keep:=[4]}),(8,{ keep:=[2,3,6]}),(9,{ keep:=[2,3,6,53]}),(10,{ keep:=[2,3,6]}),(11,{ keep:=[2,3,6,84]}),(12,{ keep:=[4]}),(13,{ keep:=[4]})]),
(15,[(0,{ keep:=[2,3]}),(1,{ keep:=[2,3,15]}),(2,{ keep:=[4]}),(3,{ keep:=[2,3,5]}),(4,{ keep:=[3,5,17,18,19]}),(5,{ keep:=[3,5,17,18,19,20]}),(6,{ keep:=[3,5,7,17,18,19]}),(7,{ keep:=[3,5,17,18,19]}),(8,{ keep:=[3,5,17,18,19]}),(9,{ keep:=[4]})]),
(16,[(0,{ keep:=[1,2]}),(1,{ keep:=[1,2,6]}),(2,{ keep:=[2,3]}),(3,{ keep:=[2,3]})]),
(17,[(0,{ keep:=[0,1]}),(1,{ keep:=[4]})]),
(18,[(0,{ keep:=[0,1,2,6]}),(1,{ keep:=[6]})]),
(19,[(0,{ keep:=[1,2]}),(1,{ keep:=[1,2,5]}),(2,{ keep:=[1,2,5,7]}),(3,{ keep:=[1,2,5]}),(4,{ keep:=[1,2,5,17]}),(5,{ keep:=[4]}),(6,{ keep:=[4]})]),
(20,[(0,{ keep:=[1]}),(1,{ keep:=[1,3,4]}),(2,{ keep:=[1,3,12]}),(3,{ keep:=[2]}),(4,{ keep:=[1,5]}),(5,{ keep:=[1,5,6]}),(6,{ keep:=[1,5,6,23]}),(7,{ keep:=[1,5,6]}),(8,{ keep:=[1,5,6,31]}),(9,{ keep:=[2]}),(10,{ keep:=[1,5,6]}),(11,{ keep:=[2]})]),
(21,[(0,{ keep:=[1,2,8]}),(1,{ keep:=[2,6,8]}),(2,{ keep:=[2,4,8]}),(3,{ keep:=[2,8,11]}),(4,{ keep:=[2]}),(5,{ keep:=[2]})]),
(22,[(0,{ keep:=[1,2]}),(1,{ keep:=[1,2,6]}),(2,{ keep:=[2]}),(3,{ keep:=[1,2,8]}),(4,{ keep:=[1,2,8,9]}),(5,{ keep:=[1,2,3,8]}),(6,{ keep:=[1,2,8]}),(7,{ keep:=[1,2,8]}),(8,{ keep:=[2]})]),
(23,[(0,{ keep:=[1]}),(1,{ keep:=[2]})]),
(24,[(0,{ keep:=[0,2]}),(1,{ keep:=[0,2]}),(2,{ keep:=[0,2,6]}),(3,{ keep:=[0,2]}),(4,{ keep:=[0,2,10]}),(5,{ keep:=[2]}),(6,{ keep:=[2]})]),
(25,[(0,{ keep:=[0,2]}),(1,{ keep:=[2]})]),
(26,[(0,{ keep:=[2,3,4]}),(1,{ keep:=[4]})]),
(27,[(0,{ keep:=[2,3,4]}),(1,{ keep:=[2,3,4,12]}),(2,{ keep:=[4]}),(3,{ keep:=[4]})]),
(28,[(0,{ keep:=[2,3,4]}),(1,{ keep:=[2,3,4,14]}),(2,{ keep:=[4]}),(3,{ keep:=[2,3,4,5]}),(4,{ keep:=[2,3,4,5,16]}),(5,{ keep:=[2,3,4,5,16,17]}),(6,{ keep:=[2,3,4,5,6,16]}),(7,{ keep:=[2,3,4,5,16]}),(8,{ keep:=[2,3,4,5,16]}),(9,{ keep:=[4]})]),
(29,[(0,{ keep:=[0,1]}),(1,{ keep:=[0,1,5]}),(2,{ keep:=[0,1,5,6]}),(3,{ keep:=[0,1,5,6,10]}),(4,{ keep:=[0,1,5,6]}),(5,{ keep:=[0,1,5,6,18]}),(6,{ keep:=[4]}),(7,{ keep:=[0,1,5,6,34]}),(8,{ keep:=[0,1,5,6]}),(9,{ keep:=[4]})]),
(30,[(0,{ keep:=[0,1,2]}),(1,{ keep:=[0,1,2,7]}),(2,{ keep:=[0,1,2,7,11]}),(3,{ keep:=[0,1,2,7]}),(4,{ keep:=[0,1,2,7,20]}),(5,{ keep:=[6]}),(6,{ keep:=[6]})]),
(31,[(0,{ keep:=[1]}),(1,{ keep:=[1,3]}),(2,{ keep:=[1,3,10]}),(3,{ keep:=[2]}),(4,{ keep:=[1,3,4]}),(5,{ keep:=[1,3,4,12]}),(6,{ keep:=[1,3,4]}),(7,{ keep:=[1,3,4,22]}),(8,{ keep:=[2]}),(9,{ keep:=[2]})]),
(32,[(0,{ keep:=[1]}),(1,{ keep:=[1,3,4]}),(2,{ keep:=[1,3,4,5]}),(3,{ keep:=[2]})]),
(33,[(0,{ keep:=[1,2]}),(1,{ keep:=[1,2,6]}),(2,{ keep:=[2,3]}),(3,{ keep:=[2,3]})]),
(34,[(0,{ keep:=[0,2]}),(1,{ keep:=[0,2,5]}),(2,{ keep:=[2,3]}),(3,{ keep:=[0,2,9]}),(4,{ keep:=[2,3]}),(5,{ keep:=[0,2,14]}),(6,{ keep:=[2,3]}),(7,{ keep:=[0,2,4]}),(8,{ keep:=[0,2,4,24]}),(9,{ keep:=[2,3]}),(10,{ keep:=[2,3]})]),
(35,[(0,{ keep:=[1]}),(1,{ keep:=[1,14]}),(2,{ keep:=[2]}),(3,{ keep:=[1,3,4]}),(4,{ keep:=[2]})]),
(36,[(0,{ keep:=[1,2]}),(1,{ keep:=[1,2,6]}),(2,{ keep:=[2,3]}),(3,{ keep:=[2,3]})]),
(37,[(0,{ keep:=[0,2]}),(1,{ keep:=[0,2,5]}),(2,{ keep:=[2,3]}),(3,{ keep:=[0,2,10]}),(4,{ keep:=[2,3]}),(5,{ keep:=[0,2,15]}),(6,{ keep:=[2,3]}),(7,{ keep:=[0,2,4]}),(8,{ keep:=[0,2,4,24]}),(9,{ keep:=[2,3]}),(10,{ keep:=[2,3]})]),
(38,[(0,{ keep:=[0,1]}),(1,{ keep:=[0,1,10]}),(2,{ keep:=[4]}),(3,{ keep:=[0,1,5]}),(4,{ keep:=[0,1,5,14]}),(5,{ keep:=[0,1,5]}),(6,{ keep:=[0,1,5,25]}),(7,{ keep:=[4]}),(8,{ keep:=[4]})]),
(39,[(0,{ keep:=[0,1]}),(1,{ keep:=[0,1,10]}),(2,{ keep:=[4]}),(3,{ keep:=[0,1,5]}),(4,{ keep:=[0,1,5,14]}),(5,{ keep:=[0,1,5]}),(6,{ keep:=[0,1,5,25]}),(7,{ keep:=[4]}),(8,{ keep:=[4]})]),
(40,[(0,{ keep:=[2,3]}),(1,{ keep:=[2,3,12]}),(2,{ keep:=[4]}),(3,{ keep:=[4]})]),
(41,[(0,{ keep:=[1]}),(1,{ keep:=[1,32]}),(2,{ keep:=[2]}),(3,{ keep:=[2]})])]
def R3:List (Nat×List (Nat×eL)):=[
(42,[(0,{ keep:=[0]}),(1,{ keep:=[0]}),(2,{ keep:=[0,6]}),(3,{ keep:=[0]}),(4,{ keep:=[2]})]),
(43,[(0,{ keep:=[0,2]}),(1,{ keep:=[2]})]),
(44,[(0,{ keep:=[1,2]}),(1,{ keep:=[1,2,4]}),(2,{ keep:=[1,2,4,5]}),(3,{ keep:=[1,2,4,5,9]}),(4,{ keep:=[1,2,4,5]}),(5,{ keep:=[1,2,4,5,6]}),(6,{ keep:=[1,2,4,5,6,15]}),(7,{ keep:=[1,2,4,5,6]}),(8,{ keep:=[1,2,4,5,6,28]}),(9,{ keep:=[2,3]}),(10,{ keep:=[1,2,4,5,6,7]}),(11,{ keep:=[1,2,4,5,6,7,34]}),(12,{ keep:=[1,2,4,5,6,7]}),(13,{ keep:=[1,2,4,5,6,7]}),(14,{ keep:=[1,2,4,5,50]}),(15,{ keep:=[1,2,4,5]}),(16,{ keep:=[2,3]})]),
(45,[(0,{ keep:=[1]}),(1,{ keep:=[1,3]}),(2,{ keep:=[1,3,4]}),(3,{ keep:=[1,3,4,8]}),(4,{ keep:=[1,3,4]}),(5,{ keep:=[1,4,5,6]}),(6,{ keep:=[1,4,5,6,21]}),(7,{ keep:=[1,4,5,6]}),(8,{ keep:=[1,3,4]}),(9,{ keep:=[2]})]),
(46,[(0,{ keep:=[1]}),(1,{ keep:=[1,5]}),(2,{ keep:=[2]}),(3,{ keep:=[2]})]),
(47,[(0,{ keep:=[2,3,4]}),(1,{ keep:=[2,3,4,22]}),(2,{ keep:=[4]}),(3,{ keep:=[2,3,4,33]}),(4,{ keep:=[3,4,5]}),(5,{ keep:=[4,5,7]}),(6,{ keep:=[4,5,7,49]}),(7,{ keep:=[4,5,7]}),(8,{ keep:=[4]}),(9,{ keep:=[4,9,10]}),(10,{ keep:=[4,9,10,69]}),(11,{ keep:=[4],still:=[9,10]}),(12,{ keep:=[4,9,10,11]}),(13,{ keep:=[4,9,10,11,12]}),(14,{ keep:=[4,9,10,11,12,13],still:=[9,10]}),(15,{ keep:=[4,9,10,11,12,13,88]}),(16,{ keep:=[4,9,10,11,12,90]}),(17,{ keep:=[4,9,10,11,12]}),(18,{ keep:=[4,9,10,11,12]}),(19,{ keep:=[4,9,11,12,14]}),(20,{ keep:=[4,9,11,12,14,104]}),(21,{ keep:=[4,9,11,12,14]}),(22,{ keep:=[4,9,11,12,14]}),(23,{ keep:=[4]})]),
(48,[(0,{ keep:=[1]}),(1,{ keep:=[1,3]}),(2,{ keep:=[2]}),(3,{ keep:=[12]}),(4,{ keep:=[2]}),(5,{ keep:=[2]})]),
(49,[(0,{ keep:=[0,2]}),(1,{ keep:=[0,2,3]}),(2,{ keep:=[0,2,3,7]}),(3,{ keep:=[0,2,3]}),(4,{ keep:=[2]})]),
(50,[(0,{ keep:=[1]}),(1,{ keep:=[1,2]})]),
(51,[(0,{ keep:=[1]}),(1,{ keep:=[1,6,7]}),(2,{ keep:=[1,6,7,8]}),(3,{ keep:=[1,4,6,7]}),(4,{ keep:=[1,6,7,12]}),(5,{ keep:=[2]}),(6,{ keep:=[1,6,7]}),(7,{ keep:=[2]})]),
(52,[(0,{ keep:=[1,2]}),(1,{ keep:=[1,2,5]}),(2,{ keep:=[2]}),(3,{ keep:=[2]})]),
(53,[(0,{ keep:=[0,2]}),(1,{ keep:=[0,2,3]}),(2,{ keep:=[2,4]}),(3,{ keep:=[2]})]),
(54,[(0,{ keep:=[2,3,4]}),(1,{ keep:=[2,3,4,5]}),(2,{ keep:=[2,3,4,5,12,13]}),(3,{ keep:=[2,3,4,5,12,13,14]}),(4,{ keep:=[2,3,4,5,6,7,12,13]}),(5,{ keep:=[2,3,4,5,6,7,12,13,18,19]}),(6,{ keep:=[2,3,4,5,6,7,12,13,18,19,20]}),(7,{ keep:=[2,3,4,5,6,7,8,9,12,13,18,19]}),(8,{ keep:=[2,3,4,5,6,7,8,9,12,13,18,19,30]}),(9,{ keep:=[2,3,4,5,6,7,8,9,10,12,13,18,19]}),(10,{ keep:=[2,3,4,5,6,7,12,13,18,19]}),(11,{ keep:=[2,3,4,5,6,7,12,13,18,19]}),(12,{ keep:=[2,3,4,5,12,13]}),(13,{ keep:=[4]})]),
(55,[(0,{ keep:=[2,3,4]}),(1,{ keep:=[2,3,4,14]}),(2,{ keep:=[4]}),(3,{ keep:=[2,3,4,5,6]}),(4,{ keep:=[2,3,4,5,6,22]}),(5,{ keep:=[4]}),(6,{ keep:=[2,3,4,5,6,34]}),(7,{ keep:=[4]}),(8,{ keep:=[4]})]),
(56,[(0,{ keep:=[2,3,4]}),(1,{ keep:=[2,3,4,12]}),(2,{ keep:=[4]}),(3,{ keep:=[4]})]),
(57,[(0,{ keep:=[2,3,4]}),(1,{ keep:=[2,3,4,5]}),(2,{ keep:=[2,3,4,5,12]}),(3,{ keep:=[2,3,4,5]}),(4,{ keep:=[2,3,4,5,17]}),(5,{ keep:=[4]}),(6,{ keep:=[2,3,4,5,21]}),(7,{ keep:=[2,3,4,5,21,22]}),(8,{ keep:=[2,3,4,5,6,21]}),(9,{ keep:=[2,3,4,5,21]}),(10,{ keep:=[2,3,4,5,21]}),(11,{ keep:=[4]})]),
(58,[(0,{ keep:=[1,2]}),(1,{ keep:=[4]})]),
(59,[(0,{ keep:=[1]}),(1,{ keep:=[2]})]),
(60,[(0,{ keep:=[1]}),(1,{ keep:=[1,3]}),(2,{ keep:=[1,3,4]}),(3,{ keep:=[1,3,4,10]}),(4,{ keep:=[1,3,4]}),(5,{ keep:=[1,3,4]}),(6,{ keep:=[2]})]),
(61,[(0,{ keep:=[2,3]}),(1,{ keep:=[2,3,14]}),(2,{ keep:=[4]}),(3,{ keep:=[2,3,5,6]}),(4,{ keep:=[2,3,5,6,21]}),(5,{ keep:=[24]}),(6,{ keep:=[4]}),(7,{ keep:=[4]}),(8,{ keep:=[4]})]),
(62,[(0,{ keep:=[1,2]}),(1,{ keep:=[1,2,5]}),(2,{ keep:=[2]}),(3,{ keep:=[2]})]),
(63,[(0,{ keep:=[2,3]}),(1,{ keep:=[4]})]),
(64,[(0,{ keep:=[0,1]}),(1,{ keep:=[0,1,10]}),(2,{ keep:=[4]}),(3,{ keep:=[0,1,12,13]}),(4,{ keep:=[0,1,12,13,14]}),(5,{ keep:=[0,1,5,12,13]}),(6,{ keep:=[0,1,12,13,24]}),(7,{ keep:=[4]}),(8,{ keep:=[0,1,12,13]}),(9,{ keep:=[4]})]),
(65,[(0,{ keep:=[0,1]}),(1,{ keep:=[0,1,10]}),(2,{ keep:=[4]}),(3,{ keep:=[0,1,12,13]}),(4,{ keep:=[0,1,12,13,14]}),(5,{ keep:=[0,1,5,12,13]}),(6,{ keep:=[0,1,12,13,24]}),(7,{ keep:=[4]}),(8,{ keep:=[0,1,12,13]}),(9,{ keep:=[4]})]),
(66,[(0,{ keep:=[0,1,2]}),(1,{ keep:=[0,1,2,14]}),(2,{ keep:=[6]}),(3,{ keep:=[1,2,15,16,17]}),(4,{ keep:=[1,2,15,16,17,18]}),(5,{ keep:=[1,2,7,8,15,16,17]}),(6,{ keep:=[1,2,8,9,15,16,17]}),(7,{ keep:=[1,2,15,16,17,30]}),(8,{ keep:=[6]}),(9,{ keep:=[1,2,15,16,17]}),(10,{ keep:=[6]})]),
(67,[(0,{ keep:=[1]}),(1,{ keep:=[2]})]),
(68,[(0,{ keep:=[0,1]}),(1,{ keep:=[4]})]),
(69,[(0,{ keep:=[1]}),(1,{ keep:=[2]})]),
(70,[(0,{ keep:=[0]}),(1,{ keep:=[0,3]}),(2,{ keep:=[0,3,9,10,11]}),(3,{ keep:=[0,3,9,10,11,12]}),(4,{ keep:=[0,3,4,5,9,10,11]}),(5,{ keep:=[0,3,5,9,10,11,18,19,20]}),(6,{ keep:=[0,3,5,9,10,11,18,19,20,21]}),(7,{ keep:=[0,3,5,7,9,10,11,18,19,20]}),(8,{ keep:=[0,3,5,8,9,10,11,18,19,20]}),(9,{ keep:=[0,3,5,8,9,10,11,18,19,20]}),(10,{ keep:=[0,3,5,9,10,11,18,19,20,43]}),(11,{ keep:=[2]}),(12,{ keep:=[0,3,5,9,10,11,18,19,20]}),(13,{ keep:=[0,3,9,10,11]}),(14,{ keep:=[2]})]),
(71,[(0,{ keep:=[0]}),(1,{ keep:=[0,3]}),(2,{ keep:=[0,3,10,11,12]}),(3,{ keep:=[0,3,10,11,12,13]}),(4,{ keep:=[0,3,4,5,10,11,12]}),(5,{ keep:=[0,3,5,10,11,12,19,20,21]}),(6,{ keep:=[0,3,5,10,11,12,19,20,21,22]}),(7,{ keep:=[0,3,5,7,10,11,12,19,20,21]}),(8,{ keep:=[0,3,5,8,9,10,11,12,19,20,21]}),(9,{ keep:=[0,3,5,8,10,11,12,19,20,21,32]}),(10,{ keep:=[0,3,5,10,11,12,19,20,21]}),(11,{ keep:=[0,3,5,10,11,12,19,20,21]}),(12,{ keep:=[0,3,10,11,12]}),(13,{ keep:=[3]}),(14,{ keep:=[2]})]),
(72,[(0,{ keep:=[0,1,10]}),(1,{ keep:=[0,1,10,13]}),(2,{ keep:=[4,10]}),(3,{ keep:=[0,1,5]}),(4,{ keep:=[0,1,5,15,16,17]}),(5,{ keep:=[0,1,5,15,16,17,18]}),(6,{ keep:=[0,1,5,7,15,16,17]}),(7,{ keep:=[0,1,5,15,16,17]}),(8,{ keep:=[0,1,5,15,16,17]}),(9,{ keep:=[0,5,8]}),(10,{ keep:=[0,10]}),(11,{ keep:=[4,10]})]),
(73,[(0,{ keep:=[0]}),(1,{ keep:=[0,4]}),(2,{ keep:=[2]}),(3,{ keep:=[2]})]),
(74,[(0,{ keep:=[0,1,7]}),(1,{ keep:=[0,1,5,7]}),(2,{ keep:=[0,1,5,7,12,13,14]}),(3,{ keep:=[0,1,5,7,12,13,14,15]}),(4,{ keep:=[0,1,5,6,7,12,13,14]}),(5,{ keep:=[0,1,5,6,7,12,13,14,23]}),(6,{ keep:=[0,1,5,6,7,8,12,13,14]}),(7,{ keep:=[0,1,5,6,7,8,12,13,14,24,25,26]}),(8,{ keep:=[0,1,5,6,7,8,12,13,14,24,25,26,27]}),(9,{ keep:=[0,1,5,6,7,8,9,10,12,13,14,24,25,26]}),(10,{ keep:=[0,1,5,6,7,8,9,12,13,14,24,25,26,34]}),(11,{ keep:=[0,1,5,6,7,8,12,13,14,24,25,26]}),(12,{ keep:=[0,1,5,6,7,8,12,13,14,24,25,26]}),(13,{ keep:=[0,1,5,6,7,8,12,13,14,42]}),(14,{ keep:=[0,1,5,6,7,11,12,13,14]}),(15,{ keep:=[0,1,5,6,7,11,12,13,14,50]}),(16,{ keep:=[0,1,5,7,12,13,14]}),(17,{ keep:=[0,1,5,7,12,13,14]}),(18,{ keep:=[4,7]})]),
(75,[(0,{ keep:=[1]}),(1,{ keep:=[2]})]),
(76,[(0,{ keep:=[1,2]}),(1,{ keep:=[1,2,5]}),(2,{ keep:=[2]}),(3,{ keep:=[2]})]),
(77,[(0,{ keep:=[0]}),(1,{ keep:=[0,3]}),(2,{ keep:=[0,3,7]}),(3,{ keep:=[0,3]}),(4,{ keep:=[0,3,15]}),(5,{ keep:=[2]}),(6,{ keep:=[2]})]),
(78,[(0,{ keep:=[0]}),(1,{ keep:=[0,3]}),(2,{ keep:=[0,3,4]}),(3,{ keep:=[0,3,4,11]}),(4,{ keep:=[0,3,4]}),(5,{ keep:=[0,3,4,5]}),(6,{ keep:=[0,3,4,5,16]}),(7,{ keep:=[0,3,4,5]}),(8,{ keep:=[0,3,4,5,6]}),(9,{ keep:=[0,3,4,5,6,31]}),(10,{ keep:=[0,3,4,5,6,7]}),(11,{ keep:=[0,3,4,5,6,7,38]}),(12,{ keep:=[0,3,4,5,6,7]}),(13,{ keep:=[0,3,4,5,6,7]}),(14,{ keep:=[0,3,4,5,58]}),(15,{ keep:=[2]}),(16,{ keep:=[2]})]),
(79,[(0,{ keep:=[0]}),(1,{ keep:=[0,3]}),(2,{ keep:=[0,3,4]}),(3,{ keep:=[0,3,4,14]}),(4,{ keep:=[0,3,4]}),(5,{ keep:=[0,3,4,5]}),(6,{ keep:=[0,3,4,5,19]}),(7,{ keep:=[0,3,4,5]}),(8,{ keep:=[0,3,4,5,6]}),(9,{ keep:=[0,3,4,5,6,24]}),(10,{ keep:=[0,3,4,5,6]}),(11,{ keep:=[0,3,4,5,6,7,8]}),(12,{ keep:=[0,3,4,5,6,7,44]}),(13,{ keep:=[0,3,4,5,6,7,9]}),(14,{ keep:=[0,3,4,5,6,7,9,10]}),(15,{ keep:=[0,3,4,5,6,7,9,10,51]}),(16,{ keep:=[0,3,4,5,6,7,9,10]}),(17,{ keep:=[0,3,4,5,6,7,9,10]}),(18,{ keep:=[0,3,4,5,6,7,76]}),(19,{ keep:=[0,3,4,5,6]}),(20,{ keep:=[2]})]),
(80,[(0,{ keep:=[0]}),(1,{ keep:=[0,3]}),(2,{ keep:=[0,3,11]}),(3,{ keep:=[0,3]}),(4,{ keep:=[0,3,4]}),(5,{ keep:=[0,3,4,5]}),(6,{ keep:=[0,3,4,5,24]}),(7,{ keep:=[0,3,4,5]}),(8,{ keep:=[0,3,4,5,6]}),(9,{ keep:=[0,3,4,5,6,7]}),(10,{ keep:=[0,3,4,5,6,7,39]}),(11,{ keep:=[0,3,4,5,6,7]}),(12,{ keep:=[0,3,4,5,6,7,53]}),(13,{ keep:=[2]}),(14,{ keep:=[2]})]),
(81,[(0,{ keep:=[0,1,4]}),(1,{ keep:=[0,1,4,5]}),(2,{ keep:=[0,1,4,5,6]}),(3,{ keep:=[0,1,4,5,6,18]}),(4,{ keep:=[0,1,4,5,6]}),(5,{ keep:=[0,1,4,5,6,7]}),(6,{ keep:=[0,1,4,5,6,7,8]}),(7,{ keep:=[0,1,4,5,6,7,8,23]}),(8,{ keep:=[0,1,4,5,6,7,8]}),(9,{ keep:=[0,1,4,5,6,7,8]}),(10,{ keep:=[0,1,4,5,6,38]}),(11,{ keep:=[0,1,4,5,6,9]}),(12,{ keep:=[0,1,4,5,6,9,47]}),(13,{ keep:=[0,1,4,5,6]}),(14,{ keep:=[4]})])]
def R4:List (Nat×List (Nat×eL)):=[
(82,[(0,{ keep:=[2,3]}),(1,{ keep:=[4]})]),
(83,[(0,{ keep:=[2,3,4]}),(1,{ keep:=[4,5]}),(2,{ keep:=[4]})]),
(84,[(0,{ keep:=[0,1]}),(1,{ keep:=[0,1,6]}),(2,{ keep:=[0,1]}),(3,{ keep:=[4]})]),
(85,[(0,{ keep:=[1]}),(1,{ keep:=[1,9]}),(2,{ keep:=[2,3]}),(3,{ keep:=[4]}),(4,{ keep:=[2,3]})]),
(86,[(0,{ keep:=[0]}),(1,{ keep:=[0,3]}),(2,{ keep:=[0,3,4]}),(3,{ keep:=[0,3,4,14]}),(4,{ keep:=[0,3,4]}),(5,{ keep:=[0,3,4,5]}),(6,{ keep:=[0,3,4]}),(7,{ keep:=[2]})]),
(87,[(0,{ keep:=[0,1,4]}),(1,{ keep:=[0,4,5]}),(2,{ keep:=[4]})]),
(88,[(0,{ keep:=[0,1]}),(1,{ keep:=[0,1,12]}),(2,{ keep:=[0,1]}),(3,{ keep:=[0,1,5]}),(4,{ keep:=[0,1,5,6]}),(5,{ keep:=[0,1,5,6,7]}),(6,{ keep:=[0,1,5,6,7,22]}),(7,{ keep:=[0,1,5,6,7]}),(8,{ keep:=[0,1,5,6,7]}),(9,{ keep:=[0,1,5,6,7,34]}),(10,{ keep:=[0,1,5,6,7]}),(11,{ keep:=[0,1,5,6,7]}),(12,{ keep:=[0,1,5,6,7]}),(13,{ keep:=[5]}),(14,{ keep:=[4]})]),
(89,[(0,{ keep:=[0]}),(1,{ keep:=[0,4]}),(2,{ keep:=[0,4,10]}),(3,{ keep:=[0,4]}),(4,{ keep:=[0,4]}),(5,{ keep:=[0,4,5]}),(6,{ keep:=[0,4,5,21]}),(7,{ keep:=[0,4,5]}),(8,{ keep:=[0,4,5,6]}),(9,{ keep:=[0,4,5,6,27]}),(10,{ keep:=[0,4,5,6]}),(11,{ keep:=[0,4,5,6]}),(12,{ keep:=[0,4,5,6,41]}),(13,{ keep:=[0,4,5,6]}),(14,{ keep:=[2,3]})]),
(90,[(0,{ keep:=[0,1]}),(1,{ keep:=[0,1,10]}),(2,{ keep:=[15]}),(3,{ keep:=[4]}),(4,{ keep:=[4]}),(5,{ keep:=[0,1,5]}),(6,{ keep:=[0,1,5,20]}),(7,{ keep:=[0,1,5]}),(8,{ keep:=[0,1,5,31]}),(9,{ keep:=[40]}),(10,{ keep:=[4]}),(11,{ keep:=[4]}),(12,{ keep:=[4]})]),
(91,[(0,{ keep:=[0,1]}),(1,{ keep:=[0,1,5]}),(2,{ keep:=[0,1,5,6]}),(3,{ keep:=[0,1,5,6,7]}),(4,{ keep:=[0,1,5,6,7,15]}),(5,{ keep:=[0,1,5,6,7]}),(6,{ keep:=[0,1,5,7,8]}),(7,{ keep:=[0,1,5,7,8,27]}),(8,{ keep:=[0,1,5,7,8]}),(9,{ keep:=[0,1,5,6,7,8]}),(10,{ keep:=[0,1,5,6,7,8,35]}),(11,{ keep:=[0,1,5,7,8]}),(12,{ keep:=[0,1,5,6,7,8]}),(13,{ keep:=[0,1,5,6,7]}),(14,{ keep:=[4]})]),
(92,[(0,{ keep:=[0,1]}),(1,{ keep:=[0,1,5]}),(2,{ keep:=[0,5,6]}),(3,{ keep:=[0,5,6,7]}),(4,{ keep:=[0,5,6,7,16]}),(5,{ keep:=[0,5,6,7]}),(6,{ keep:=[0,5,6,7]}),(7,{ keep:=[0,5,6,7]}),(8,{ keep:=[0,5,6,7]}),(9,{ keep:=[5]}),(10,{ keep:=[4]})]),
(93,[(0,{ keep:=[0,11,12]}),(1,{ keep:=[0,11,12,13]}),(2,{ keep:=[0,3,4,11,12]}),(3,{ keep:=[0,11,12,20]}),(4,{ keep:=[0,11,12]})]),
(94,[(0,{ keep:=[1]}),(1,{ keep:=[1,5]}),(2,{ keep:=[2]}),(3,{ keep:=[2]})]),
(95,[(0,{ keep:=[1]}),(1,{ keep:=[1,3]}),(2,{ keep:=[2]}),(3,{ keep:=[12]}),(4,{ keep:=[2]}),(5,{ keep:=[2]})]),
(96,[(0,{ keep:=[2,3,4]}),(1,{ keep:=[2,4,5]}),(2,{ keep:=[4,5,9,10]}),(3,{ keep:=[4,5,9,10,11]}),(4,{ keep:=[4,5,7,9,10]}),(5,{ keep:=[4,5,9,10]}),(6,{ keep:=[4,5,9,10]}),(7,{ keep:=[4]})]),
(97,[(0,{ keep:=[0,2]}),(1,{ keep:=[0,2,4]}),(2,{ keep:=[2]}),(3,{ keep:=[2]})]),
(98,[(0,{ keep:=[0,1,2,3,4,10]}),(1,{ keep:=[1,2,3,4,10,11]}),(2,{ keep:=[4,10,11,21]}),(3,{ keep:=[4,10,11,21,23]}),(4,{ keep:=[4,10,11,12,13,21]}),(5,{ keep:=[4,10,11,21]}),(6,{ keep:=[10,11],perm:=true}),(7,{ keep:=[10]})]),
(99,[(0,{ keep:=[0]}),(1,{ keep:=[0,3]}),(2,{ keep:=[0,3,12,13]}),(3,{ keep:=[0,3,12,13,14]}),(4,{ keep:=[0,3,4,12,13]}),(5,{ keep:=[0,3,4,5,12,13]}),(6,{ keep:=[0,3,12,13]}),(7,{ keep:=[0,3,12,13]}),(8,{ keep:=[2],still:=[3]})]),
(100,[(0,{ keep:=[0,1]}),(1,{ keep:=[0,1,14]}),(2,{ keep:=[0,1]}),(3,{ keep:=[0,1,5]}),(4,{ keep:=[0,1,5,6]}),(5,{ keep:=[0,1,5,6,21,22,23]}),(6,{ keep:=[0,1,5,6,21,22,23,24]}),(7,{ keep:=[0,1,5,6,7,8,21,22,23]}),(8,{ keep:=[0,1,5,6,7,8,9,21,22,23]}),(9,{ keep:=[0,1,5,6,7,8,9,21,22,23,31]}),(10,{ keep:=[0,1,5,6,7,8,9,21,22,23]}),(11,{ keep:=[0,1,5,6,21,22,23]}),(12,{ keep:=[0,1,5,6,21,22,23]}),(13,{ keep:=[5]}),(14,{ keep:=[4],still:=[5]})]),
(101,[(0,{ keep:=[0,1,4]}),(1,{ keep:=[1,4,5]}),(2,{ keep:=[4]})]),
(102,[(0,{ keep:=[0,1]}),(1,{ keep:=[0,1,10]}),(2,{ keep:=[4]}),(3,{ keep:=[0,1,5]}),(4,{ keep:=[0,1,5,20]}),(5,{ keep:=[0,1,5]}),(6,{ keep:=[0,1,5,23]}),(7,{ keep:=[4]}),(8,{ keep:=[0,1,5,33]}),(9,{ keep:=[4]}),(10,{ keep:=[4]})]),
(103,[(0,{ keep:=[0,1]}),(1,{ keep:=[0,1,5]}),(2,{ keep:=[0,1,5,6]}),(3,{ keep:=[1,5,6,13,14,15]}),(4,{ keep:=[1,5,6,13,14,15,16]}),(5,{ keep:=[1,5,6,7,8,13,14,15]}),(6,{ keep:=[1,5,6,7,8,9,13,14,15]}),(7,{ keep:=[1,5,6,7,8,9,13,14,15,23]}),(8,{ keep:=[1,5,6,7,8,9,13,14,15]}),(9,{ keep:=[1,5,6,13,14,15]}),(10,{ keep:=[1,5,6,13,14,15]}),(11,{ keep:=[4],still:=[5]})]),
(104,[(0,{ keep:=[0,1]}),(1,{ keep:=[0,1,5]}),(2,{ keep:=[0,1,5,6]}),(3,{ keep:=[1,5,6,20,21,22]}),(4,{ keep:=[1,5,6,20,21,22,23]}),(5,{ keep:=[1,5,6,7,8,20,21,22]}),(6,{ keep:=[1,5,6,7,8,20,21,22,27,28,29]}),(7,{ keep:=[1,5,6,7,8,20,21,22,27,28,29,30]}),(8,{ keep:=[1,5,6,7,8,9,10,20,21,22,27,28,29]}),(9,{ keep:=[1,5,6,7,8,20,21,22,27,28,29]}),(10,{ keep:=[1,5,6,7,8,20,21,22,27,28,29]}),(11,{ keep:=[1,5,6,20,21,22]}),(12,{ keep:=[4],still:=[5]})]),
(105,[(0,{ keep:=[2,3,4]}),(1,{ keep:=[4,5]}),(2,{ keep:=[4]})]),
(106,[(0,{ keep:=[1]}),(1,{ keep:=[2]})]),
(107,[(0,{ keep:=[0,1]}),(1,{ keep:=[0,1,7,8]}),(2,{ keep:=[0,1,7,8,9]}),(3,{ keep:=[0,1,5,7,8]}),(4,{ keep:=[0,1,5,7,8,16]}),(5,{ keep:=[4]}),(6,{ keep:=[0,1,7,8]}),(7,{ keep:=[4]})]),
(108,[(0,{ keep:=[2,3,4]}),(1,{ keep:=[2,3,4,12]}),(2,{ keep:=[4]}),(3,{ keep:=[4]})]),
(109,[(0,{ keep:=[0,3]}),(1,{ keep:=[3,4]})]),
(110,[(0,{ keep:=[1,2]}),(1,{ keep:=[2]})]),
(111,[(0,{ keep:=[0,4,5,12]}),(1,{ keep:=[0,4,5,8,12]}),(2,{ keep:=[0,4,5,8,12,22]}),(3,{ keep:=[6,7,8,12]}),(4,{ keep:=[0,8,9]}),(5,{ keep:=[0,8,9,10]}),(6,{ keep:=[0,8,12]}),(7,{ keep:=[8,12,52,53,54]}),(8,{ keep:=[8,12,52,53,54,55]}),(9,{ keep:=[8,12,14,52,53,54]}),(10,{ keep:=[8,12,52,53,54,61]}),(11,{ keep:=[6,7,8,12]}),(12,{ keep:=[8,12,52,53,54]}),(13,{ keep:=[8,12,74]}),(14,{ keep:=[6,7,8,12]}),(15,{ keep:=[8,12,15]}),(16,{ keep:=[6,7,8,12]})]),
(112,[(0,{ keep:=[0,1,4]}),(1,{ keep:=[]})]),
(113,[(0,{ keep:=[2,3]}),(1,{ keep:=[2,3,12]}),(2,{ keep:=[4]}),(3,{ keep:=[4]})]),
(114,[(0,{ keep:=[0]}),(1,{ keep:=[0,8]}),(2,{ keep:=[2]}),(3,{ keep:=[0,3]}),(4,{ keep:=[0,3,13]}),(5,{ keep:=[0,3]}),(6,{ keep:=[0,3,25]}),(7,{ keep:=[0,3,4]}),(8,{ keep:=[0,3,4,5]}),(9,{ keep:=[0,3,4,5,32]}),(10,{ keep:=[0,3,4,5]}),(11,{ keep:=[0,3,4,5,44]}),(12,{ keep:=[0,3,4,5]}),(13,{ keep:=[0,3,4,5]}),(14,{ keep:=[0,3]}),(15,{ keep:=[2]}),(16,{ keep:=[2]})]),
(115,[(0,{ keep:=[0,1,2,6]}),(1,{ keep:=[6]})]),
(116,[(0,{ keep:=[2,3,4]}),(1,{ keep:=[4]})]),
(117,[(0,{ keep:=[0,1,4]}),(1,{ keep:=[4,5]})]),
(118,[(0,{ keep:=[2,3,4]}),(1,{ keep:=[4]})]),
(119,[(0,{ keep:=[1,2]}),(1,{ keep:=[3]})]),
(120,[(0,{ keep:=[1,2]}),(1,{ keep:=[3]})]),
(121,[(0,{ keep:=[2,3]}),(1,{ keep:=[3,5,6]}),(2,{ keep:=[5,6,7,8]}),(3,{ keep:=[4]})])]
def R5:List (Nat×List (Nat×eL)):=[
(122,[(0,{ keep:=[1,3,5]}),(1,{ keep:=[1,3,5,7]}),(2,{ keep:=[1,3,5,7,8]}),(3,{ keep:=[3,5,7,8,9]}),(4,{ keep:=[3,5,7,8,9]}),(5,{ keep:=[3,5,6]})]),
(123,[(0,{ keep:=[1]}),(1,{ keep:=[2]})]),
(124,[(0,{ keep:=[1,2]}),(1,{ keep:=[1,2,7]}),(2,{ keep:=[2]}),(3,{ keep:=[1,2,3]}),(4,{ keep:=[1,2,3,4]}),(5,{ keep:=[1,2,3,4,11]}),(6,{ keep:=[1,2,3,4]}),(7,{ keep:=[1,2,3,4]}),(8,{ keep:=[2]})]),
(125,[(0,{ keep:=[2,3,4]}),(1,{ keep:=[2,3,4,12]}),(2,{ keep:=[4]}),(3,{ keep:=[4]})]),
(126,[(0,{ keep:=[1]}),(1,{ keep:=[1,10]}),(2,{ keep:=[2]}),(3,{ keep:=[1,3,4]}),(4,{ keep:=[1,3,4,31]}),(5,{ keep:=[2]}),(6,{ keep:=[1,3,4,34]}),(7,{ keep:=[2]}),(8,{ keep:=[1,3,5]}),(9,{ keep:=[3,5,6]}),(10,{ keep:=[3,5,6,7]}),(11,{ keep:=[2]})]),
(127,[(0,{ keep:=[2,3,4]}),(1,{ keep:=[2,3,4,12]}),(2,{ keep:=[4]}),(3,{ keep:=[4]})]),
(128,[(0,{ keep:=[0,3]}),(1,{ keep:=[0,3,5]}),(2,{ keep:=[0,3,5,9]}),(3,{ keep:=[0,3,5]}),(4,{ keep:=[0,3,5,20]}),(5,{ keep:=[4]}),(6,{ keep:=[4]})]),
(129,[(0,{ keep:=[1,2]}),(1,{ keep:=[1,2,5]}),(2,{ keep:=[2]}),(3,{ keep:=[2]})]),
(130,[(0,{ keep:=[3,4,5,6]}),(1,{ keep:=[3,4,5,6,24]}),(2,{ keep:=[6,7]}),(3,{ keep:=[3,4,5,6,8]}),(4,{ keep:=[3,4,5,6,8,35]}),(5,{ keep:=[6,7]}),(6,{ keep:=[3,4,5,6,8,9]}),(7,{ keep:=[3,4,5,6,8,9]}),(8,{ keep:=[6,8,9]}),(9,{ keep:=[6,9,10]}),(10,{ keep:=[6,7]})]),
(131,[(0,{ keep:=[2,3]}),(1,{ keep:=[2,3,12]}),(2,{ keep:=[4]}),(3,{ keep:=[4]})]),
(132,[(0,{ keep:=[0,3]}),(1,{ keep:=[0,3,5]}),(2,{ keep:=[0,3,5,10]}),(3,{ keep:=[0,3,5,6]}),(4,{ keep:=[0,3,5,6,18]}),(5,{ keep:=[4]}),(6,{ keep:=[0,3,5,21]}),(7,{ keep:=[0,3,5]}),(8,{ keep:=[4]})]),
(133,[(0,{ keep:=[2,3,4]}),(1,{ keep:=[4]})]),
(134,[(0,{ keep:=[2,3]}),(1,{ keep:=[3,5,6]}),(2,{ keep:=[5,6,7,8]}),(3,{ keep:=[4]})]),
(135,[(0,{ keep:=[1,2]}),(1,{ keep:=[1,2,5]}),(2,{ keep:=[1,2,5,6]}),(3,{ keep:=[1,2,5,6,15]}),(4,{ keep:=[1,2,5,6]}),(5,{ keep:=[1,2,5,6,24]}),(6,{ keep:=[1,2,5,6]}),(7,{ keep:=[1,2,5,37]}),(8,{ keep:=[4]}),(9,{ keep:=[1,2,5,7]}),(10,{ keep:=[1,2,5,7,46]}),(11,{ keep:=[1,2,5,7,8]}),(12,{ keep:=[1,2,5,7,8,9]}),(13,{ keep:=[1,2,5,7,8,9,56]}),(14,{ keep:=[1,2,5,7,8,9]}),(15,{ keep:=[1,2,5,7,8,9,64]}),(16,{ keep:=[1,2,5,7,8,9,10]}),(17,{ keep:=[1,2,5,7,8,9,10,11]}),(18,{ keep:=[1,2,5,7,8,9,10,11,71]}),(19,{ keep:=[1,2,5,7,8,9,10,11]}),(20,{ keep:=[1,2,5,7,8,9,10,11]}),(21,{ keep:=[1,2,5,7,8,9,115]}),(22,{ keep:=[1,2,5,7]}),(23,{ keep:=[4]})]),
(136,[(0,{ keep:=[1]}),(1,{ keep:=[1,13]}),(2,{ keep:=[2]}),(3,{ keep:=[3,4,5,6]}),(4,{ keep:=[3,4,5,6,7,8]}),(5,{ keep:=[3,4,5,6,7,8,42]}),(6,{ keep:=[2]}),(7,{ keep:=[3,4,5,6,7,8,9]}),(8,{ keep:=[7,8,9,10]}),(9,{ keep:=[2]})]),
(137,[(0,{ keep:=[3,4,5,6]}),(1,{ keep:=[3,4,5,6,14]}),(2,{ keep:=[6]}),(3,{ keep:=[6]})]),
(138,[(0,{ keep:=[1]}),(1,{ keep:=[1,14]}),(2,{ keep:=[2,3]}),(3,{ keep:=[1,4]}),(4,{ keep:=[1,4,5]}),(5,{ keep:=[1,4,5,19]}),(6,{ keep:=[1,4,5]}),(7,{ keep:=[1,4,5]}),(8,{ keep:=[1,4,30]}),(9,{ keep:=[2,3]}),(10,{ keep:=[4,42]}),(11,{ keep:=[2,3]}),(12,{ keep:=[2,3]})]),
(139,[(0,{ keep:=[0]}),(1,{ keep:=[0,3]}),(2,{ keep:=[0,3,4]}),(3,{ keep:=[0,3,4,12]}),(4,{ keep:=[0,3,4]}),(5,{ keep:=[0,3,4]}),(6,{ keep:=[3,40]}),(7,{ keep:=[3]}),(8,{ keep:=[2],still:=[3]})]),
(140,[(0,{ keep:=[0]}),(1,{ keep:=[0,14]}),(2,{ keep:=[0]}),(3,{ keep:=[2]})]),
(141,[(0,{ keep:=[2,3,4]}),(1,{ keep:=[2,3,4,18]}),(2,{ keep:=[4]}),(3,{ keep:=[4,5,6]}),(4,{ keep:=[4,5,6,38]}),(5,{ keep:=[4,6,8]}),(6,{ keep:=[4,5,6]}),(7,{ keep:=[4,5,6,49]}),(8,{ keep:=[4]}),(9,{ keep:=[4,9,10]}),(10,{ keep:=[4,9,10,57]}),(11,{ keep:=[4,9,10]}),(12,{ keep:=[4]})]),
(142,[(0,{ keep:=[0]}),(1,{ keep:=[2]})]),
(143,[(0,{ keep:=[0,2]}),(1,{ keep:=[2]})]),
(144,[(0,{ keep:=[0,2]}),(1,{ keep:=[0,2,3]}),(2,{ keep:=[2,3,5]}),(3,{ keep:=[2,3,5,6]}),(4,{ keep:=[2,3]}),(5,{ keep:=[2,3,5,11]}),(6,{ keep:=[2,3]}),(7,{ keep:=[2,3,16]}),(8,{ keep:=[2,3]}),(9,{ keep:=[2]})]),
(145,[(0,{ keep:=[2,3,4]}),(1,{ keep:=[2,3,4,11]}),(2,{ keep:=[4,5]}),(3,{ keep:=[2,3,4,21]}),(4,{ keep:=[4,5]}),(5,{ keep:=[2,3,4,6]}),(6,{ keep:=[2,4,6,7]}),(7,{ keep:=[2,4,6,7,8]}),(8,{ keep:=[2,4,6,8,9]}),(9,{ keep:=[2,4,6,8,10]}),(10,{ keep:=[4,5]})]),
(146,[(0,{ keep:=[0]}),(1,{ keep:=[0,14]}),(2,{ keep:=[0]}),(3,{ keep:=[2]})]),
(147,[(0,{ keep:=[0,1,2]}),(1,{ keep:=[8]}),(2,{ keep:=[6,8]}),(3,{ keep:=[6,7]})]),
(148,[(0,{ keep:=[0]}),(1,{ keep:=[0,3]}),(2,{ keep:=[0,3,4]}),(3,{ keep:=[0,3,4,13]}),(4,{ keep:=[0,3,4]}),(5,{ keep:=[0,3,4],still:=[3]}),(6,{ keep:=[2],still:=[3]})]),
(149,[(0,{ keep:=[0,1,2]}),(1,{ keep:=[0,1,6]}),(2,{ keep:=[6,7]})]),
(150,[(0,{ keep:=[0,1,8,9]}),(1,{ keep:=[0,1,8,9]}),(2,{ keep:=[0,1,8,10]}),(3,{ keep:=[0,1,10]}),(4,{ keep:=[0,10,11]}),(5,{ keep:=[0,10,11,48]}),(6,{ keep:=[0,10,11]}),(7,{ keep:=[0,10,11]})]),
(151,[(0,{ keep:=[2,3,4,5]}),(1,{ keep:=[2,3,4,5,9]}),(2,{ keep:=[4,5,6]}),(3,{ keep:=[2,3,4,5,20]}),(4,{ keep:=[4,5,6]}),(5,{ keep:=[2,3,4,5,7,8]}),(6,{ keep:=[2,3,4,5]}),(7,{ keep:=[3,4,5,56]}),(8,{ keep:=[4,5]}),(9,{ keep:=[4,5,6],perm:=true})]),
(152,[(0,{ keep:=[4,5,6,7,8]}),(1,{ keep:=[8]})]),
(153,[(0,{ keep:=[1,2]}),(1,{ keep:=[3]})]),
(154,[(0,{ keep:=[2,3,4]}),(1,{ keep:=[4]})]),
(155,[(0,{ keep:=[0,3]}),(1,{ keep:=[0,3,5]}),(2,{ keep:=[0,5,6]}),(3,{ keep:=[0,5,6,7,8]}),(4,{ keep:=[0,5,6,7,32]}),(5,{ keep:=[4]}),(6,{ keep:=[0,5,7,38]}),(7,{ keep:=[0]}),(8,{ keep:=[0,7,65]}),(9,{ keep:=[0]}),(10,{ keep:=[4]})]),
(156,[(0,{ keep:=[1,2,3,4]}),(1,{ keep:=[4]})]),
(157,[(0,{ keep:=[0,1,2,3,4,10]}),(1,{ keep:=[0,1,2,3,4,10,11]}),(2,{ keep:=[0,1,2,3,4,10,11,12]}),(3,{ keep:=[0,1,2,3,4,10,11,12,25]}),(4,{ keep:=[]}),(5,{ keep:=[0,1,2,3,4,10,11,12,32]}),(6,{ keep:=[]}),(7,{ keep:=[0,1,2,3,4,10,11,12,39]}),(8,{ keep:=[0,1,2,3,4,10,11,12]}),(9,{ keep:=[0,1,2,3,4,10,11,12]}),(10,{ keep:=[0,1,2,3,4,10,11,12,13,14]}),(11,{ keep:=[0,1,2,3,4,10,11,12,13,14,56]}),(12,{ keep:=[0,1,2,3,4,10,11,12,13]}),(13,{ keep:=[0,1,2,3,4,10,11,12,13]}),(14,{ keep:=[0,1,2,3,4,10,11,12,13,14]}),(15,{ keep:=[0,1,2,3,4,10,11,12,13,75]}),(16,{ keep:=[0,1,2,3,4,10,11,12,13,80]}),(17,{ keep:=[0,1,2,3,4,10,11,12,13,97]}),(18,{ keep:=[0,2,3,4,10,11,15]}),(19,{ keep:=[0,1,2,3,4,10,11]}),(20,{ keep:=[0,1,2,3,4,12,16,17]}),(21,{ keep:=[0,1,2,3,4,11,12,16]}),(22,{ keep:=[0,1,2,3,4,11,12,16,18,19]}),(23,{ keep:=[0,1,2,3,4,11,16,18,19,20]}),(24,{ keep:=[0,1,2,3,4,11,16,18,19,20,125]}),(25,{ keep:=[0,1,2,3,4,10,11,16]}),(26,{ keep:=[0,2,3,4,10,11,16]}),(27,{ keep:=[0,1,2,3,4,10,11]}),(28,{ keep:=[0,1,2,3,4,10,11,16]}),(29,{ keep:=[0,1,3,4,10,11,16]}),(30,{ keep:=[0,1,2,3,4,10,11]})]),
(158,[(0,{ keep:=[0]}),(1,{ keep:=[2]}),(2,{ keep:=[2]})]),
(159,[(0,{ keep:=[0]}),(1,{ keep:=[0,3]}),(2,{ keep:=[3,6,7,8]}),(3,{ keep:=[3,6,7,8,9]}),(4,{ keep:=[3,5,6,7,8]}),(5,{ keep:=[3,5,6,7,8,14]}),(6,{ keep:=[2]}),(7,{ keep:=[3,6,7,8]}),(8,{ keep:=[2]})]),
(160,[(0,{ keep:=[2,3,4]}),(1,{ keep:=[2,3,4,8,9]}),(2,{ keep:=[2,3,4,8,9,10]}),(3,{ keep:=[2,3,4,7,8,9]}),(4,{ keep:=[2,3,4,8,9,14]}),(5,{ keep:=[4,5]}),(6,{ keep:=[2,3,4,8,9]}),(7,{ keep:=[2,3,4,17]}),(8,{ keep:=[4,5]}),(9,{ keep:=[2,3,4,22]}),(10,{ keep:=[4,5]}),(11,{ keep:=[4,5]})]),
(161,[(0,{ keep:=[1,2,3,13]}),(1,{ keep:=[1,2,3,8,13]}),(2,{ keep:=[2,3]}),(3,{ keep:=[1,2,3,12,13]}),(4,{ keep:=[1,2,3,4,13]}),(5,{ keep:=[1,2,3,4,13,16]}),(6,{ keep:=[1,2,3,5]}),(7,{ keep:=[2,3]}),(8,{ keep:=[2,3]})])]
def R6:List (Nat×List (Nat×eL)):=[
(162,[(0,{ keep:=[0,1,2]}),(1,{ keep:=[0,1,2,5]}),(2,{ keep:=[1,2,5,10,11,12]}),(3,{ keep:=[1,2,5,10,11,12,13]}),(4,{ keep:=[1,2,5,7,10,11,12]}),(5,{ keep:=[1,2,5,7,10,11,12,18]}),(6,{ keep:=[1,2,5,7,8,9,10,11,12]}),(7,{ keep:=[1,2,5,7,10,11,12,50]}),(8,{ keep:=[1,2,5,7,10,11,12]}),(9,{ keep:=[1,2,5,10,11,12]}),(10,{ keep:=[1,2,5,10,11,12]}),(11,{ keep:=[4]})]),
(163,[(0,{ keep:=[0]}),(1,{ keep:=[0,4]}),(2,{ keep:=[2]}),(3,{ keep:=[2]})]),
(164,[(0,{ keep:=[0,2,3]}),(1,{ keep:=[0,2,3,9]}),(2,{ keep:=[0,2,3]}),(3,{ keep:=[0,2,3]})]),
(165,[(0,{ keep:=[1,2]}),(1,{ keep:=[1,2,10]}),(2,{ keep:=[2]}),(3,{ keep:=[2]})]),
(166,[(0,{ keep:=[4,5,6,7,8]}),(1,{ keep:=[8]})]),
(167,[(0,{ keep:=[2,3]}),(1,{ keep:=[2,3,5,6]}),(2,{ keep:=[2,3,5,6,17]}),(3,{ keep:=[4]}),(4,{ keep:=[2,3,5,6,20]}),(5,{ keep:=[4]}),(6,{ keep:=[4]})]),
(168,[(0,{ keep:=[2,3,4]}),(1,{ keep:=[2,3,4,5]}),(2,{ keep:=[2,3,4,5,6]}),(3,{ keep:=[2,3,4,5,6,11]}),(4,{ keep:=[2,3,4,5,6]}),(5,{ keep:=[2,3,4,5,6,7]}),(6,{ keep:=[2,3,4,5,6,7,15]}),(7,{ keep:=[2,3,4,5,6,7]}),(8,{ keep:=[2,3,4,5,6,7,29]}),(9,{ keep:=[2,3,4,5,6,7,8]}),(10,{ keep:=[2,3,4,5,6,7,8,34]}),(11,{ keep:=[2,3,4,5,6,7,8]}),(12,{ keep:=[2,3,4,5,6,7,8,41]}),(13,{ keep:=[2,3,4,5,6,7,8]}),(14,{ keep:=[2,3,4,5,6,7,9]}),(15,{ keep:=[2,3,4,5,6,7]}),(16,{ keep:=[4]})]),
(169,[(0,{ keep:=[2,3,4]}),(1,{ keep:=[2,3,4,12]}),(2,{ keep:=[4]}),(3,{ keep:=[4]})]),
(170,[(0,{ keep:=[2,3,4]}),(1,{ keep:=[2,3,4,16]}),(2,{ keep:=[4]}),(3,{ keep:=[2,3,4,25]}),(4,{ keep:=[3,4,5]}),(5,{ keep:=[4,5,7]}),(6,{ keep:=[4]}),(7,{ keep:=[4]})]),
(171,[(0,{ keep:=[2,3,4]}),(1,{ keep:=[2,3,4,19]}),(2,{ keep:=[4]}),(3,{ keep:=[2,3,4,5,6]}),(4,{ keep:=[2,3,4,5,26]}),(5,{ keep:=[2,3,4,5,7,8]}),(6,{ keep:=[2,3,4,5,7,32]}),(7,{ keep:=[4,5,7,9]}),(8,{ keep:=[4,5,7,9,34]}),(9,{ keep:=[4,5,7,9]}),(10,{ keep:=[4,5,7,9]}),(11,{ keep:=[4,5]}),(12,{ keep:=[4]}),(13,{ keep:=[2,3,4,10]}),(14,{ keep:=[2,3,4,10,11]}),(15,{ keep:=[2,3,4,10,11,61]}),(16,{ keep:=[2,3,4,10,11]}),(17,{ keep:=[2,3,4,10,11]}),(18,{ keep:=[4]})]),
(172,[(0,{ keep:=[2,3,4]}),(1,{ keep:=[2,3,4,16]}),(2,{ keep:=[4]}),(3,{ keep:=[2,3,4,5,6]}),(4,{ keep:=[2,3,4,5,23]}),(5,{ keep:=[2,3,4,5,7,8]}),(6,{ keep:=[2,3,4,5,7,29]}),(7,{ keep:=[4]}),(8,{ keep:=[4]})]),
(173,[(0,{ keep:=[3,4,5,6]}),(1,{ keep:=[3,4,5,6,19]}),(2,{ keep:=[6]}),(3,{ keep:=[6]})]),
(174,[(0,{ keep:=[2,3,4]}),(1,{ keep:=[2,3,4,12]}),(2,{ keep:=[4]}),(3,{ keep:=[4]})]),
(175,[(0,{ keep:=[2,3,4]}),(1,{ keep:=[2,3,4,12]}),(2,{ keep:=[4]}),(3,{ keep:=[4]})]),
(176,[(0,{ keep:=[2,3,4]}),(1,{ keep:=[2,3,4,13]}),(2,{ keep:=[4,5]}),(3,{ keep:=[2,3,4,23]}),(4,{ keep:=[4,5]}),(5,{ keep:=[2,3,4,6]}),(6,{ keep:=[2,3,4,6,7]}),(7,{ keep:=[2,3,4,6,7,31]}),(8,{ keep:=[2,3,4,6,7]}),(9,{ keep:=[2,3,4,6,7,8]}),(10,{ keep:=[2,3,4,6,7,8,9]}),(11,{ keep:=[2,3,4,6,7,8,9,37]}),(12,{ keep:=[2,3,4,6,7,8,9]}),(13,{ keep:=[2,3,4,6,7,8,9,49]}),(14,{ keep:=[2,3,4,6,7,8,9]}),(15,{ keep:=[2,3,4,6,7]}),(16,{ keep:=[2,3,4,6,10]}),(17,{ keep:=[2,3,4,10,11]}),(18,{ keep:=[2,3,4,10,11,12]}),(19,{ keep:=[2,3,4,10,11,12,68]}),(20,{ keep:=[2,3,4,10,11,12]}),(21,{ keep:=[2,3,4,10,11,12]}),(22,{ keep:=[4,5]})]),
(177,[(0,{ keep:=[2,3]}),(1,{ keep:=[2,3,12]}),(2,{ keep:=[4]}),(3,{ keep:=[4]})]),
(178,[(0,{ keep:=[2,3]}),(1,{ keep:=[2,3,14]}),(2,{ keep:=[4]}),(3,{ keep:=[2,3,5]}),(4,{ keep:=[2,3,5,21]}),(5,{ keep:=[4]}),(6,{ keep:=[2,3,6]}),(7,{ keep:=[2,3,6,29]}),(8,{ keep:=[4]}),(9,{ keep:=[4]})]),
(179,[(0,{ keep:=[1,2]}),(1,{ keep:=[1,2,9]}),(2,{ keep:=[2,3]}),(3,{ keep:=[1,2,4]}),(4,{ keep:=[1,2,4,16]}),(5,{ keep:=[1,2,4]}),(6,{ keep:=[1,2,4,22]}),(7,{ keep:=[1,2,4]}),(8,{ keep:=[1,2,5]}),(9,{ keep:=[2,3]})]),
(180,[(0,{ keep:=[1,2,3]}),(1,{ keep:=[1,2,3,7]}),(2,{ keep:=[1,2,3,7,11]}),(3,{ keep:=[1,2,3,7]}),(4,{ keep:=[1,2,3,7,36]}),(5,{ keep:=[6]}),(6,{ keep:=[6]})]),
(181,[(0,{ keep:=[4,5,6,7]}),(1,{ keep:=[8]})]),
(182,[(0,{ keep:=[2,3]}),(1,{ keep:=[4]})]),
(183,[(0,{ keep:=[0,1,2]}),(1,{ keep:=[0,1,2,7]}),(2,{ keep:=[6]}),(3,{ keep:=[0,1,2,16]}),(4,{ keep:=[6]}),(5,{ keep:=[6]})]),
(184,[(0,{ keep:=[2,3,4]}),(1,{ keep:=[2,3,4,12]}),(2,{ keep:=[4]}),(3,{ keep:=[4]})]),
(185,[(0,{ keep:=[0,4,5,6]}),(1,{ keep:=[6]})]),
(186,[(0,{ keep:=[0,1]}),(1,{ keep:=[0,1,19]}),(2,{ keep:=[4,5]}),(3,{ keep:=[0,1,23]}),(4,{ keep:=[6,7]}),(5,{ keep:=[4,5]}),(6,{ keep:=[0,1,8]}),(7,{ keep:=[0,8,9]}),(8,{ keep:=[8,9,10]}),(9,{ keep:=[8,9,10,11]}),(10,{ keep:=[8,9,10,11,12]}),(11,{ keep:=[8,9,10,11,12,13]}),(12,{ keep:=[8,9,10,11,12,13,63]}),(13,{ keep:=[8,9,10,11,12,13]}),(14,{ keep:=[8,9,10,11,12,13]}),(15,{ keep:=[8,10,12,14]}),(16,{ keep:=[8,10,12,14,82,83]}),(17,{ keep:=[8,10,12,14,82,83,84]}),(18,{ keep:=[8,10,12,14,15,82,83]}),(19,{ keep:=[8,10,12,14,82,83]}),(20,{ keep:=[8,10,12,14,82,83]}),(21,{ keep:=[4,5],still:=[12,14]})]),
(187,[(0,{ keep:=[0]}),(1,{ keep:=[0,3]}),(2,{ keep:=[0,3,4]}),(3,{ keep:=[0,3,4,9]}),(4,{ keep:=[0,3,4]}),(5,{ keep:=[0,3,4]}),(6,{ keep:=[2]})]),
(188,[(0,{ keep:=[1,2,4]}),(1,{ keep:=[1,2,4,6]}),(2,{ keep:=[1,2,4,6,7]}),(3,{ keep:=[1,2,4,5,6]}),(4,{ keep:=[1,2,4,5,6,12]}),(5,{ keep:=[1,2,4,6]}),(6,{ keep:=[1,2,4,6]}),(7,{ keep:=[4]})]),
(189,[(0,{ keep:=[0,1]}),(1,{ keep:=[0,1,12]}),(2,{ keep:=[4]}),(3,{ keep:=[0,1,21]}),(4,{ keep:=[4]}),(5,{ keep:=[0,1,5,6]}),(6,{ keep:=[0,1,5,31]}),(7,{ keep:=[4]}),(8,{ keep:=[4]})]),
(190,[(0,{ keep:=[0,1]}),(1,{ keep:=[6]}),(2,{ keep:=[4,5]})]),
(191,[(0,{ keep:=[0,1,2,3,8]}),(1,{ keep:=[0,1,2,3,8,14]}),(2,{ keep:=[0,1,2,3,8]}),(3,{ keep:=[0,1,2,3,8,9]}),(4,{ keep:=[0,1,2,3,8,9,34]}),(5,{ keep:=[0,1,2,3,8,9]}),(6,{ keep:=[0,1,2,3,8,9]})]),
(192,[(0,{ keep:=[0,1,2,3,8]}),(1,{ keep:=[0,1,2,3,8,9]}),(2,{ keep:=[0,3,8,9,10]}),(3,{ keep:=[0,3,8,9,10,11]}),(4,{ keep:=[0,3,8,9,10,11,21]}),(5,{ keep:=[0,3,8,9,10,11]}),(6,{ keep:=[0,3,8,9,10,11]}),(7,{ keep:=[0,3,8,9,12]}),(8,{ keep:=[0,3,8,9,12,33]}),(9,{ keep:=[0,3,8,9,12]}),(10,{ keep:=[0,3,8,9,12]}),(11,{ keep:=[0,3,8,9,12]})]),
(193,[(0,{ keep:=[0,1,8]}),(1,{ keep:=[0,1,8,17]}),(2,{ keep:=[0,1,8,9]}),(3,{ keep:=[0,1,8,9,10]}),(4,{ keep:=[0,1,8,9,10,11]}),(5,{ keep:=[0,1,8,9,10,11,35]}),(6,{ keep:=[0,1,8,9,10,11]}),(7,{ keep:=[0,1,8,9,10,11,12]}),(8,{ keep:=[0,1,8,9,10,11,12,45]}),(9,{ keep:=[0,1,8,9,10,11,12]}),(10,{ keep:=[0,1,8,9,10,11]})]),
(194,[(0,{ keep:=[0,1,2,3]}),(1,{ keep:=[0,1,3,10]}),(2,{ keep:=[0,1,3,10,11]}),(3,{ keep:=[0,1,3,10,11,12]}),(4,{ keep:=[0,1,3,10,11,12,13]}),(5,{ keep:=[0,3,10,11,12,13,14]}),(6,{ keep:=[0,3,10,11,12,13,14,34]}),(7,{ keep:=[0,3,11,12,13,14,36]}),(8,{ keep:=[0,3,11,12,13,14]}),(9,{ keep:=[0,3,11,12,13,14]}),(10,{ keep:=[0,3,11,12,13,14]}),(11,{ keep:=[11,13]}),(12,{ keep:=[13,55]}),(13,{ keep:=[8,9]}),(14,{ keep:=[13,55,57]}),(15,{ keep:=[8,9]}),(16,{ keep:=[13,60]}),(17,{ keep:=[8,9]})]),
(195,[(0,{ keep:=[0,2,8]}),(1,{ keep:=[0,8,9]}),(2,{ keep:=[0,8,9,15]}),(3,{ keep:=[0,8,9]}),(4,{ keep:=[0,8,9]}),(5,{ keep:=[0,8,9]})]),
(196,[(0,{ keep:=[0,1,2,3]}),(1,{ keep:=[0,1,2,3,9]}),(2,{ keep:=[0,1,2,3,9,10]}),(3,{ keep:=[0,1,2,3,9,10,16]}),(4,{ keep:=[0,1,2,3,9,10]}),(5,{ keep:=[0,1,2,3,9,10,36]}),(6,{ keep:=[0,1,2,3,9,10]}),(7,{ keep:=[0,1,2,3,9,10,41]}),(8,{ keep:=[8]}),(9,{ keep:=[0,1,2,3,9,10,45]}),(10,{ keep:=[8]}),(11,{ keep:=[0,1,2,3,9,10]}),(12,{ keep:=[0,1,2,3,9,10,65]}),(13,{ keep:=[0,1,2,3,9,10,11]}),(14,{ keep:=[0,1,2,3,9,10,11,69]}),(15,{ keep:=[0,1,2,3,9,10,11]}),(16,{ keep:=[0,1,2,3,9,10,11,84]}),(17,{ keep:=[0,1,2,3,9,10,11]}),(18,{ keep:=[0,1,2,3,9,10,104]}),(19,{ keep:=[0,1,2,3,9,10,12]}),(20,{ keep:=[0,1,2,3,9,10,12,109]}),(21,{ keep:=[0,1,2,3,9,10,12]}),(22,{ keep:=[0,1,2,3,9,10,12,124]}),(23,{ keep:=[0,1,2,3,9,10,12]}),(24,{ keep:=[8]})]),
(197,[(0,{ keep:=[0,1,2,3,4]}),(1,{ keep:=[0,1,2,4]}),(2,{ keep:=[0,1,4,11,12]}),(3,{ keep:=[0,1,4,11,12,47]}),(4,{ keep:=[0,1,4,11,12]}),(5,{ keep:=[0,1,4,11,12,65]}),(6,{ keep:=[0,1,4,11,12]}),(7,{ keep:=[0,1,4,11,12,70]}),(8,{ keep:=[0,1,4,11,12]}),(9,{ keep:=[0,1,4,11,12]}),(10,{ keep:=[0,1,4,11,12]}),(11,{ keep:=[10]})]),
(198,[(0,{ keep:=[0,1,2,3,4]}),(1,{ keep:=[0,1,2,4]}),(2,{ keep:=[0,1,4,12,13]}),(3,{ keep:=[0,1,4,12,13,47]}),(4,{ keep:=[0,1,4,12,13]}),(5,{ keep:=[0,1,4,12,13,66]}),(6,{ keep:=[0,1,4,12,13]}),(7,{ keep:=[0,1,4,12,13,71]}),(8,{ keep:=[13]}),(9,{ keep:=[10,11]}),(10,{ keep:=[0,1,4,12,13]}),(11,{ keep:=[0,1,4,12,13]}),(12,{ keep:=[0,1,4,12,13]}),(13,{ keep:=[0,1,4,12,13,120]}),(14,{ keep:=[0,1,4,12,13]}),(15,{ keep:=[0,1,4,12,13,139]}),(16,{ keep:=[0,1,4,12,13]}),(17,{ keep:=[0,1,4,12,13,144]}),(18,{ keep:=[0,1,4,12,13]}),(19,{ keep:=[0,1,4,12,13]}),(20,{ keep:=[0,1,4,12,13]}),(21,{ keep:=[13]}),(22,{ keep:=[10,11]})]),
(199,[(0,{ keep:=[0,2]}),(1,{ keep:=[0,2,4]}),(2,{ keep:=[0]}),(3,{ keep:=[0,2]}),(4,{ keep:=[0,2,8]}),(5,{ keep:=[0,2]}),(6,{ keep:=[0,2]}),(7,{ keep:=[2]})]),
(200,[(0,{ keep:=[0,2]}),(1,{ keep:=[0,2,4]}),(2,{ keep:=[0]}),(3,{ keep:=[0,2]}),(4,{ keep:=[0,2,8]}),(5,{ keep:=[0,2]}),(6,{ keep:=[0,2]}),(7,{ keep:=[0,2,14]}),(8,{ keep:=[0,2]}),(9,{ keep:=[0,2]}),(10,{ keep:=[2]})]),
(201,[(0,{ keep:=[1]}),(1,{ keep:=[1,2]})])]
def R7:List (Nat×List (Nat×eL)):=[
(202,[(0,{ keep:=[2,3,4]}),(1,{ keep:=[4,5]}),(2,{ keep:=[4]})]),
(203,[(0,{ keep:=[1,2]}),(1,{ keep:=[1,2,5]}),(2,{ keep:=[2]}),(3,{ keep:=[2]})]),
(204,[(0,{ keep:=[2,3,4]}),(1,{ keep:=[4]})]),
(205,[(0,{ keep:=[2,3,4]}),(1,{ keep:=[2,3,4,18]}),(2,{ keep:=[4]}),(3,{ keep:=[2,3,4,5,6]}),(4,{ keep:=[2,3,4,5,25]}),(5,{ keep:=[2,3,4,5,7,8]}),(6,{ keep:=[2,3,4,5,7,31]}),(7,{ keep:=[4]}),(8,{ keep:=[2,3,4,9,10]}),(9,{ keep:=[2,3,4,9,10,42]}),(10,{ keep:=[4]}),(11,{ keep:=[2,3,4,9,10,54]}),(12,{ keep:=[4]}),(13,{ keep:=[4]})]),
(206,[(0,{ keep:=[0,1]}),(1,{ keep:=[0,1,5]}),(2,{ keep:=[0,1,5,6]}),(3,{ keep:=[0,1,5,6,18]}),(4,{ keep:=[0,1,5,6]}),(5,{ keep:=[0,1,5,6,7]}),(6,{ keep:=[0,1,5,6,7,8]}),(7,{ keep:=[0,1,5,6,7,8,24]}),(8,{ keep:=[0,1,5,6,7,8]}),(9,{ keep:=[0,1,5,6,7,8]}),(10,{ keep:=[0,1,5,6,7,8]}),(11,{ keep:=[0,1,5,6,7,8]}),(12,{ keep:=[0,1,5,6]}),(13,{ keep:=[4],still:=[5]})]),
(207,[(0,{ keep:=[1,2]}),(1,{ keep:=[1,2,3]}),(2,{ keep:=[1,2,3,4]}),(3,{ keep:=[1,2,3,4,5]}),(4,{ keep:=[1,2,3,4,5,9]}),(5,{ keep:=[1,2,3,4,5]}),(6,{ keep:=[1,2,3,4,5]}),(7,{ keep:=[2,4]}),(8,{ keep:=[2]})]),
(208,[(0,{ keep:=[2,3,4]}),(1,{ keep:=[2,3,4,5]}),(2,{ keep:=[2,3,4,5,6]}),(3,{ keep:=[2,3,4,5,6,11]}),(4,{ keep:=[2,3,4,5,6]}),(5,{ keep:=[2,3,4,5,6]}),(6,{ keep:=[2,3,4,5]}),(7,{ keep:=[2,3,4,5,23]}),(8,{ keep:=[2,3,4,5]}),(9,{ keep:=[2,3,4,5,7]}),(10,{ keep:=[2,3,4,5,7,31]}),(11,{ keep:=[2,3,4,5,7,8]}),(12,{ keep:=[2,3,4,5,7,8,33]}),(13,{ keep:=[2,3,4,5,7,8]}),(14,{ keep:=[2,3,4,5,7,8]}),(15,{ keep:=[4,7]}),(16,{ keep:=[4]})]),
(209,[(0,{ keep:=[1,2]}),(1,{ keep:=[1,2,5]}),(2,{ keep:=[2]}),(3,{ keep:=[2]})]),
(210,[(0,{ keep:=[2,3]}),(1,{ keep:=[4]})]),
(211,[(0,{ keep:=[0,1]}),(1,{ keep:=[0,1,6]}),(2,{ keep:=[0,1,6,7]}),(3,{ keep:=[0,1,6,7,8]}),(4,{ keep:=[0,1,6,7,8,16]}),(5,{ keep:=[0,1,6,7,8]}),(6,{ keep:=[0,1,6,7,8]}),(7,{ keep:=[4,5],still:=[6]})]),
(212,[(0,{ keep:=[0]}),(1,{ keep:=[2]})]),
(213,[(0,{ keep:=[0,1]}),(1,{ keep:=[0,1,5]}),(2,{ keep:=[1,5,12,13,14]}),(3,{ keep:=[1,5,12,13,14,15]}),(4,{ keep:=[1,5,6,7,12,13,14]}),(5,{ keep:=[1,5,6,7,12,13,14]}),(6,{ keep:=[1,5,12,13,14]}),(7,{ keep:=[1,5,12,13,14]}),(8,{ keep:=[4]})]),
(214,[(0,{ keep:=[0,1]}),(1,{ keep:=[0,1,5]}),(2,{ keep:=[0,1,5,6]}),(3,{ keep:=[0,1,5,7,8]}),(4,{ keep:=[0,1,5,7,8,68]}),(5,{ keep:=[0,1,5,7,8]}),(6,{ keep:=[0,1,5,7,8]}),(7,{ keep:=[0,1,5,7,8,80]}),(8,{ keep:=[0,1,5,7,9,10]}),(9,{ keep:=[0,1,5,7,9,10,81,82,83]}),(10,{ keep:=[0,1,5,7,9,10,81,82,83,84]}),(11,{ keep:=[0,1,5,7,9,10,11,12,81,82,83]}),(12,{ keep:=[0,1,5,7,9,10,11,81,82,83]}),(13,{ keep:=[0,1,5,7,9,10,81,82,83]}),(14,{ keep:=[0,1,5,7,9,10,81,82,83]}),(15,{ keep:=[0,1,5,7,9,10,81,82,83]}),(16,{ keep:=[0,1,5,7,10]}),(17,{ keep:=[0,1,5,7,126]}),(18,{ keep:=[0,1,5,7]}),(19,{ keep:=[0,1,5,7,13]}),(20,{ keep:=[0,5,7,13,129,130,131]}),(21,{ keep:=[0,5,7,13,129,130,131,132]}),(22,{ keep:=[0,5,7,13,14,15,129,130,131]}),(23,{ keep:=[0,5,7,13,129,130,131]}),(24,{ keep:=[0,5,7,13,129,130,131]}),(25,{ keep:=[7]}),(26,{ keep:=[4]})]),
(215,[(0,{ keep:=[0,1]}),(1,{ keep:=[0,1,13]}),(2,{ keep:=[0,1]}),(3,{ keep:=[4]})]),
(216,[(0,{ keep:=[0,2]}),(1,{ keep:=[0,2,4]}),(2,{ keep:=[0,2,4,9]}),(3,{ keep:=[0,2,4]}),(4,{ keep:=[0,2,4,5]}),(5,{ keep:=[0,2,4,5,16]}),(6,{ keep:=[2,3]}),(7,{ keep:=[0,2,4]}),(8,{ keep:=[2,3]})]),
(217,[(0,{ keep:=[0,1]}),(1,{ keep:=[0,1,7]}),(2,{ keep:=[0,1,12]}),(3,{ keep:=[0,1]}),(4,{ keep:=[4]})]),
(218,[(0,{ keep:=[0,1]}),(1,{ keep:=[0,1,9]}),(2,{ keep:=[0,1,5,6]}),(3,{ keep:=[0,1,6,18]}),(4,{ keep:=[0,1]}),(5,{ keep:=[4]})]),
(219,[(0,{ keep:=[0,2,3,4,10]}),(1,{ keep:=[0,2,3,4,10,11]}),(2,{ keep:=[0,2,3,4,10,11,18]}),(3,{ keep:=[0,2,3,4,10,11,40]}),(4,{ keep:=[0,2,3,4,10,11]}),(5,{ keep:=[0,2,3,4,10,11,58]}),(6,{ keep:=[0,2,3,4,11]}),(7,{ keep:=[0,2,3,4,10]})]),
(220,[(0,{ keep:=[0]}),(1,{ keep:=[2]})]),
(221,[(0,{ keep:=[0]}),(1,{ keep:=[0]}),(2,{ keep:=[0]}),(3,{ keep:=[0]}),(4,{ keep:=[2]})]),
(222,[(0,{ keep:=[0,1,2,3]}),(1,{ keep:=[8]})]),
(223,[(0,{ keep:=[0,1,2,3,4,5]}),(1,{ keep:=[0,1,2,3,4,5]}),(2,{ keep:=[0,1,2,4,5]}),(3,{ keep:=[2]}),(4,{ keep:=[12]})]),
(224,[(0,{ keep:=[]})]),
(225,[(0,{ keep:=[2,3,4]}),(1,{ keep:=[4,5]}),(2,{ keep:=[4]})]),
(226,[(0,{ keep:=[0,1,2]}),(1,{ keep:=[0,1,2,15]}),(2,{ keep:=[0,1,2]}),(3,{ keep:=[2,8]}),(4,{ keep:=[6,7]})]),
(227,[(0,{ keep:=[0,1]}),(1,{ keep:=[4]})]),
(228,[(0,{ keep:=[0]}),(1,{ keep:=[0,10]}),(2,{ keep:=[2,3]}),(3,{ keep:=[2,3]})]),
(229,[(0,{ keep:=[0,1]}),(1,{ keep:=[4]})]),
(230,[(0,{ keep:=[0,1,2,3,4]}),(1,{ keep:=[1,2,3,22]}),(2,{ keep:=[1,2]}),(3,{ keep:=[10,11]}),(4,{ keep:=[10,11]})]),
(231,[(0,{ keep:=[2,3,4,5]}),(1,{ keep:=[2,3,4,5,21]}),(2,{ keep:=[4,5,6]}),(3,{ keep:=[2,3,4,5,26]}),(4,{ keep:=[4,5,6]}),(5,{ keep:=[2,3,4,5,7,8]}),(6,{ keep:=[2,3,4,5,7,40]}),(7,{ keep:=[4,5,7,9]}),(8,{ keep:=[4,5,7,9,11]}),(9,{ keep:=[4,5,7,9,11,59]}),(10,{ keep:=[4,5,7,9,11]}),(11,{ keep:=[4,5,6]}),(12,{ keep:=[2,3,4,5,12,13]}),(13,{ keep:=[2,3,4,5,12,13,89]}),(14,{ keep:=[2,3,4,5,12,13]}),(15,{ keep:=[2,3,4,5,12,13]}),(16,{ keep:=[4,5,6]})]),
(232,[(0,{ keep:=[0]}),(1,{ keep:=[0,4]}),(2,{ keep:=[0,4,16]}),(3,{ keep:=[2,3]}),(4,{ keep:=[0,4,5]}),(5,{ keep:=[0,4,5,6]}),(6,{ keep:=[0,4,5,6,23]}),(7,{ keep:=[0,7]}),(8,{ keep:=[2,3]}),(9,{ keep:=[0,4,5,6,8]}),(10,{ keep:=[0,4,5,8,9]}),(11,{ keep:=[0,5,8,9,45]}),(12,{ keep:=[2,3]}),(13,{ keep:=[0,5,8,9,10]}),(14,{ keep:=[0,5,8,10,57]}),(15,{ keep:=[2,3]}),(16,{ keep:=[0,5,8,10,59]}),(17,{ keep:=[2,3]}),(18,{ keep:=[0,5,8,10,11]}),(19,{ keep:=[0,5,8,10,11,75]}),(20,{ keep:=[2,3]}),(21,{ keep:=[0,5,10,11,77]}),(22,{ keep:=[2,3]}),(23,{ keep:=[5,10,11,12]}),(24,{ keep:=[5,10,11,12,98]}),(25,{ keep:=[2,3]}),(26,{ keep:=[2,3]})]),
(233,[(0,{ keep:=[0,1,4]}),(1,{ keep:=[0,4,7]}),(2,{ keep:=[0,4,7,8]}),(3,{ keep:=[0,4,7,8,9]}),(4,{ keep:=[0,4,7,8,9]}),(5,{ keep:=[0,4,7,8,9,26]}),(6,{ keep:=[0,4,7,8,9,33]}),(7,{ keep:=[0,4,7,8,9,11]}),(8,{ keep:=[0,4,7,8,9,11,43]}),(9,{ keep:=[4]}),(10,{ keep:=[0,4,7,8,9]}),(11,{ keep:=[0,4,7,8,9,12]}),(12,{ keep:=[0,4,7,8,9,12,51]}),(13,{ keep:=[0,4,7,8,9,12]}),(14,{ keep:=[0,4,7,8,9,12,64]}),(15,{ keep:=[4]}),(16,{ keep:=[0,4,7,8,9,10]}),(17,{ keep:=[0,4,7,8,9,10]}),(18,{ keep:=[0,4,7,8,9,98]}),(19,{ keep:=[4]}),(20,{ keep:=[8,9,13]}),(21,{ keep:=[8,9,13,108]}),(22,{ keep:=[4]}),(23,{ keep:=[0,7,8,9,14]}),(24,{ keep:=[0,7,8,9,14,15]}),(25,{ keep:=[0,7,8,9,14,15,124]}),(26,{ keep:=[0,7,8,9,14,15]}),(27,{ keep:=[0,7,8,9,14,15,139]}),(28,{ keep:=[0,7,8,9,14,15,16]}),(29,{ keep:=[0,7,8,9,14,15,16,143]}),(30,{ keep:=[0,7,8,9,14,15,16]}),(31,{ keep:=[0,7,8,9,14,15,16,156]}),(32,{ keep:=[4]}),(33,{ keep:=[4]}),(34,{ keep:=[0,1,4,160]}),(35,{ keep:=[4]}),(36,{ keep:=[0,1,4,171]}),(37,{ keep:=[175]}),(38,{ keep:=[175,176,177]}),(39,{ keep:=[5,6,175]}),(40,{ keep:=[5,175,181]}),(41,{ keep:=[4]}),(42,{ keep:=[4]}),(43,{ keep:=[0,1,4,183]}),(44,{ keep:=[4]})]),
(234,[(0,{ keep:=[0,1]}),(1,{ keep:=[0,1,24]}),(2,{ keep:=[4,5]}),(3,{ keep:=[0,1,28]}),(4,{ keep:=[6,7]}),(5,{ keep:=[4,5]}),(6,{ keep:=[0,1,8]}),(7,{ keep:=[0,8,9]}),(8,{ keep:=[0,8,9,10]}),(9,{ keep:=[8,9,10,11]}),(10,{ keep:=[8,9,10,11,12]}),(11,{ keep:=[8,9,10,11,12,13]}),(12,{ keep:=[8,9,10,11,12,13,73]}),(13,{ keep:=[8,9,10,11,12,13]}),(14,{ keep:=[8,9,10,11,12,13,14]}),(15,{ keep:=[8,9,10,11,12,13,14,15]}),(16,{ keep:=[8,9,10,11,12,13,14,15,136]}),(17,{ keep:=[8,9,10,11,12,13,14,15]}),(18,{ keep:=[8,9,10,11,12,13,15,16]}),(19,{ keep:=[8,9,10,11,12,13,15,16,17]}),(20,{ keep:=[8,9,10,11,12,13,15,16,17,141]}),(21,{ keep:=[8,9,10,11,12,13,15,16,17]}),(22,{ keep:=[8,9,10,11,12,13,15,16,17]}),(23,{ keep:=[8,9,10,11,12,13,15,16,17]}),(24,{ keep:=[8,9,10,11,12,13,15,16,17]}),(25,{ keep:=[8,9,10,11,12,13,15]}),(26,{ keep:=[8,9,10,11,12,13,15,183]}),(27,{ keep:=[8,9,10,11,12,13,15]}),(28,{ keep:=[8,9,10,11,12,13,15,16]}),(29,{ keep:=[8,9,10,11,12,13,15,16,18]}),(30,{ keep:=[8,9,10,11,12,13,15,16,18,188]}),(31,{ keep:=[8,9,10,11,12,13,15,16,18]}),(32,{ keep:=[8,9,10,11,12,13,15,16,18]}),(33,{ keep:=[8,9,10,11,12,13,15,16,18]}),(34,{ keep:=[8,9,10,11,12,13,15,16,18]}),(35,{ keep:=[8,9,10,11,12,13,15]}),(36,{ keep:=[8,9,10,11,12,13]}),(37,{ keep:=[12,19]}),(38,{ keep:=[4,5],still:=[12]})]),
(235,[(0,{ keep:=[0,1]}),(1,{ keep:=[4]})]),
(236,[(0,{ keep:=[0]}),(1,{ keep:=[0,3]}),(2,{ keep:=[2]}),(3,{ keep:=[10]}),(4,{ keep:=[2]}),(5,{ keep:=[2]})]),
(237,[(0,{ keep:=[0]}),(1,{ keep:=[2]})]),
(239,[(0,{ keep:=[0,1]}),(1,{ keep:=[0,1,6]}),(2,{ keep:=[0,1,6,7]}),(3,{ keep:=[0,1,6,7,8]}),(4,{ keep:=[0,1,6,7,8,16]}),(5,{ keep:=[0,1,6,7,8]}),(6,{ keep:=[0,1,6,7,8]}),(7,{ keep:=[0,1,6,7,8]}),(8,{ keep:=[0,1,6,7,8]}),(9,{ keep:=[4,5],still:=[6]})]),
(240,[(0,{ keep:=[0,1]}),(1,{ keep:=[4]})])]
def vg (f r:Nat):eL:=((look (R2++R3++R4++R5++R6++R7) f).bind (look · r)).getD { keep:=[]}
end Go.Proofs.YtibbgjafjhcemaaGreatDoor.Cul
namespace Go.Proofs.YtibbgjafjhcemaaGreatDoor.Cul
open Go Go.RowKit
def rB:Cl:={ fn:=fun _ _=>none}
theorem Fm {P:Program}:aH P rB:=⟨fun f args r h=>by simp [rB] at h,fun f ms r cs' h=>by simp [rB] at h⟩
noncomputable def uo (f:Nat):Code:=(((P0.funcs[f]?).bind (·.body))).getD .skip
def Gl (cs:List PV):List (List PV):=[[.lit (.int .i64 0), .ag (cs.take 10)],[.lit (.int .i64 1), .ag ((cs.drop 10).take 10)],[.lit (.int .i64 2), .ag ((cs.drop 20).take 10)]]
theorem OB (l:Nat) (a0 a1 a2 a3 a4 a5 a6 a7 a8 a9 b0 b1 b2 b3 b4 b5 b6 b7 b8 b9 c0 c1 c2 c3 c4 c5 c6 c7 c8 c9:PV):lN P0 rB (vg 93) (fun r=>r==3) l (fun i=>(Gl [a0,a1,a2,a3,a4,a5,a6,a7,a8,a9,b0,b1,b2,b3,b4,b5,b6,b7,b8,b9,c0,c1,c2,c3,c4,c5,c6,c7,c8,c9]).getD i []) 3 5 (uo 93) (.enter [yv l, .el [a0,a1,a2,a3,a4,a5,a6,a7,a8,a9,b0,b1,b2,b3,b4,b5,b6,b7,b8,b9,c0,c1,c2,c3,c4,c5,c6,c7,c8,c9]]) (some 0) (IG 3)=
 (false=false∧l=l∧0<3∧[PV.lit (.int .i64 0), .ag [a0,a1,a2,a3,a4,a5,a6,a7,a8,a9]]=[PV.lit (.int .i64 0), .ag [a0,a1,a2,a3,a4,a5,a6,a7,a8,a9]]∧
  (false=false∧l=l∧0+1<3∧[PV.lit (.int .i64 1), .ag [b0,b1,b2,b3,b4,b5,b6,b7,b8,b9]]=[PV.lit (.int .i64 1), .ag [b0,b1,b2,b3,b4,b5,b6,b7,b8,b9]]∧
   (false=false∧l=l∧0+1+1<3∧[PV.lit (.int .i64 2), .ag [c0,c1,c2,c3,c4,c5,c6,c7,c8,c9]]=[PV.lit (.int .i64 2), .ag [c0,c1,c2,c3,c4,c5,c6,c7,c8,c9]]∧(some 3=none∨some 3=some 3)∧((none:Option Nat)=none∨none=some 3))∧
   ((none:Option Nat)=none∨none=some 3))∧
  ((none:Option Nat)=none∨none=some 3)):=by kernel_rfl
theorem Dc {α:Type} {n:Nat} {cs:List α} (h:cs.length=n+10):∃x0 x1 x2 x3 x4 x5 x6 x7 x8 x9 r,cs=x0::x1::x2::x3::x4::x5::x6::x7::x8::x9::r∧r.length=n:=by
 match cs,h with
 |x0::x1::x2::x3::x4::x5::x6::x7::x8::x9::r,h=>exact ⟨x0,x1,x2,x3,x4,x5,x6,x7,x8,x9,r,rfl,by simpa using h⟩
theorem Om {α:Type} {cs:List α} (h:cs.length=30):∃a0 a1 a2 a3 a4 a5 a6 a7 a8 a9 b0 b1 b2 b3 b4 b5 b6 b7 b8 b9 c0 c1 c2 c3 c4 c5 c6 c7 c8 c9,cs=[a0,a1,a2,a3,a4,a5,a6,a7,a8,a9,b0,b1,b2,b3,b4,b5,b6,b7,b8,b9,c0,c1,c2,c3,c4,c5,c6,c7,c8,c9]:=by
 obtain ⟨a0,a1,a2,a3,a4,a5,a6,a7,a8,a9,r,hr,h⟩:=Dc (n:=20) h
 obtain ⟨b0,b1,b2,b3,b4,b5,b6,b7,b8,b9,r2,gW,h⟩:=Dc (n:=10) h
 obtain ⟨c0,c1,c2,c3,c4,c5,c6,c7,c8,c9,r3,UM,h⟩:=Dc (n:=0) h
 have h0:=List.length_eq_zero_iff.1 h
 exact ⟨a0,a1,a2,a3,a4,a5,a6,a7,a8,a9,b0,b1,b2,b3,b4,b5,b6,b7,b8,b9,c0,c1,c2,c3,c4,c5,c6,c7,c8,c9,by rw [hr,gW,UM,h0]⟩
set_option maxRecDepth 100000 in
theorem Nw (l:Nat) (cs:List PV) (h:cs.length=30):lN P0 rB (vg 93) (fun r=>r==3) l (fun i=>(Gl cs).getD i []) 3 5 (uo 93) (.enter [yv l, .el cs]) (some 0) (IG 3):=by
 obtain ⟨a0,a1,a2,a3,a4,a5,a6,a7,a8,a9,b0,b1,b2,b3,b4,b5,b6,b7,b8,b9,c0,c1,c2,c3,c4,c5,c6,c7,c8,c9,rfl⟩:=Om h
 rw [OB]
 simp
def ME:List PV→Option (Nat×List (List PV))
 |[.el cs]=>if cs.length=30∧cs.all j3=true then some (2,Gl cs) else none
 |_=>none
def MF (f:Nat) (caps:List PV):Option (Nat×List (List PV)):=if f=93 then ME caps else none
theorem tF {cs:List PV} (h:cs.all j3=true) (n:Nat):(cs.take n).all j3=true:=List.all_eq_true.2 fun x hx=>List.all_eq_true.1 h x (List.mem_of_mem_take hx)
theorem yO {cs:List PV} (h:cs.all j3=true) (n:Nat):(cs.drop n).all j3=true:=List.all_eq_true.2 fun x hx=>List.all_eq_true.1 h x (List.mem_of_mem_drop hx)
theorem Ak:P0.follows .mixedOrders=true:=by kernel_rfl
set_option maxRecDepth 100000 in
theorem MG:mC P0 MF:=by
 intro f caps k xs h
 unfold MF at h
 split at h
 · rename_i hf
   subst hf
   unfold ME at h
   split at h
   · rename_i cs
     split at h
     · rename_i hc
       simp only [Option.some.injEq,Prod.mk.injEq] at h
       obtain ⟨rfl,rfl⟩:=h
       refine Bb (P:=P0) Fm Ak (fn:=Go.Proofs.Tryz.f93) (c:=uo 93) (by kernel_rfl) (by kernel_rfl) (by kernel_rfl) (by kernel_rfl) (by kernel_rfl) (note:=vg 93) (yr:=fun r=>r==3) (fuel:=5) (k:=2) (caps:=[.el cs]) (xs:=Gl cs) ?_ fun l=>Nw l cs hc.1
       intro x hx
       simp only [Gl,List.mem_cons,List.not_mem_nil,or_false] at hx
       rcases hx with rfl|rfl|rfl<;>simp only [List.length_cons,List.length_nil,List.all_cons,List.all_nil,jq,j3,g9,Bool.and_true,Bool.true_and,true_and]
       · exact tF hc.2 _
       · exact tF (yO hc.2 _) _
       · exact tF (yO hc.2 _) _
     · simp at h
   · simp at h
 · simp at h
end Go.Proofs.YtibbgjafjhcemaaGreatDoor.Cul
namespace Go.Proofs.YtibbgjafjhcemaaGreatDoor.Cul
open Go Go.RowKit
def Fu:List Nat:=[79,111,130,132,136,162,164,179,191,192,193,195,196,197,198,219,233]
noncomputable def MD:jy:={ P:=P0,tU:=fun f=>if Fu.contains f then some (fun _ _=>none) else none,note:=vg,iter:=MF}
def yw (ps:List Nat):Nat→List Func→Bool
 |_,[]=>true
 |n,fn::l=>(ps.contains n||tS fn)&&yw ps (n+1) l
theorem xL {ps:List Nat}:∀{l:List Func} {n:Nat},yw ps n l=true→∀(i:Nat) (fn:Func),l[i]? =some fn→ps.contains (n+i)=false→tS fn=true
 |[],n,_,i,fn,h,_=>by simp at h
 |f::l,n,h,i,fn,hi,hp=>by
  simp only [yw,Bool.and_eq_true,Bool.or_eq_true] at h
  cases i with
  |zero=>
   simp only [List.getElem?_cons_zero,Option.some.injEq] at hi
   subst hi
   rcases h.1 with h1|h1
   · rw [Nat.add_zero,h1] at hp;simp at hp
   · exact h1
  |succ i=>exact xL h.2 i fn (by simpa using hi) (by rw [←hp];congr 1;omega)
theorem VS:yw Fu 0 P0.funcs.toList=true:=by kernel_rfl
theorem ah:qE MD where
 jo:=Ak
 kQ:=MG
 fns f fn hf hp:=by
  have hf':P0.funcs[f]? =some fn:=hf
  refine xL VS f fn (by rw [Array.getElem?_toList];exact hf') ?_
  simp only [MD] at hp
  split at hp
  · simp at hp
  · rename_i h;simpa using h
 Jt f g hg call hC args r h:=by
  simp only [MD] at hg
  split at hg
  · simp only [Option.some.injEq] at hg;subst hg;simp at h
  · simp at hg
end Go.Proofs.YtibbgjafjhcemaaGreatDoor.Cul
namespace Go.Proofs.YtibbgjafjhcemaaGreatDoor.Cul
def val (b:Nat):List Nat→Nat
 |[]=>0
 |x::l=>x+b* val b l
def xj (b:Nat):Nat→Nat→List Nat
 |0,_=>[]
 |k+1,n=>if n=0 then [] else n%b::xj b k (n / b)
def dg (b n:Nat):List Nat:=xj b n n
theorem Ed {b:Nat} (hb:2≤b):∀{k n:Nat},n≤k→∀m,n≤m→xj b k n=xj b m n
 |0,n,h,m,hm=>by
  have:n=0:=by omega
  subst this
  cases m<;>simp [xj]
 |k+1,n,h,m,hm=>by
  cases m with
  |zero=>have:n=0:=by omega
         subst this;simp [xj]
  |succ m=>
   simp only [xj]
   split
   · rfl
   · rename_i hn
     have:n / b<n:=Nat.div_lt_self (by omega) (by omega)
     rw [Ed hb (by omega) m (by omega)]
theorem dH (b:Nat):dg b 0=[]:=rfl
theorem dw {b n:Nat} (hb:2≤b) (hn:0<n):dg b n=n%b::dg b (n / b):=by
 unfold dg
 cases n with
 |zero=>omega
 |succ k=>
  have:(k+1) / b<k+1:=Nat.div_lt_self (by omega) (by omega)
  simp only [xj,Nat.add_one_ne_zero,if_false]
  rw [Ed hb (by omega) ((k+1) / b) (by omega)]
theorem bP {b:Nat} (hb:2≤b) (n:Nat):val b (dg b n)=n:=by
 induction n using Nat.strongRecOn with
 |_ n ih=>
  by_cases h:n=0
  · subst h;rfl
  · rw [dw hb (by omega),val,ih _ (Nat.div_lt_self (by omega) (by omega))]
    exact Nat.mod_add_div n b
def aZ (b:Nat) (l:List Nat):Prop:=∀x∈l,x<b
theorem bU {b:Nat} (hb:2≤b) (n:Nat):aZ b (dg b n):=by
 induction n using Nat.strongRecOn with
 |_ n ih=>
  by_cases h:n=0
  · subst h;simp [aZ,dH]
  · rw [dw hb (by omega)]
    intro x hx
    rcases List.mem_cons.1 hx with rfl|hx
    · exact Nat.mod_lt _ (by omega)
    · exact ih _ (Nat.div_lt_self (by omega) (by omega)) x hx
theorem aZ.tail {b x:Nat} {l:List Nat} (h:aZ b (x::l)):aZ b l:=fun y hy=>h y (List.mem_cons_of_mem _ hy)
theorem aZ.head {b x:Nat} {l:List Nat} (h:aZ b (x::l)):x<b:=h x List.mem_cons_self
theorem aZ.app {b:Nat} {l m:List Nat} (h:aZ b l) (k:aZ b m):aZ b (l++m):=fun x hx=>(List.mem_append.1 hx).elim (h x) (k x)
theorem aZ.left {b:Nat} {l m:List Nat} (h:aZ b (l++m)):aZ b l:=fun x hx=>h x (List.mem_append_left _ hx)
theorem aZ.right {b:Nat} {l m:List Nat} (h:aZ b (l++m)):aZ b m:=fun x hx=>h x (List.mem_append_right _ hx)
theorem jb {b:Nat}:∀(l m:List Nat),val b (l++m)=val b l+b^l.length* val b m
 |[],m=>by simp [val]
 |x::l,m=>by
  simp only [List.cons_append,val,jb l m,List.length_cons,Nat.pow_succ,Nat.mul_add]
  rw [←Nat.mul_assoc,Nat.mul_comm b (b^l.length),Nat.add_assoc]
theorem cT {b:Nat}:∀{l:List Nat},aZ b l→val b l<b^l.length
 |[],_=>by simp [val]
 |x::l,h=>by
  have h1:=cT h.tail
  have h2:=h.head
  simp only [val,List.length_cons,Nat.pow_succ]
  have h3:b* (val b l+1)≤b* b^l.length:=Nat.mul_le_mul_left _ h1
  rw [Nat.mul_comm (b^l.length)]
  rw [Nat.mul_add] at h3
  omega
theorem val_inj {b:Nat}:∀{l m:List Nat},aZ b l→aZ b m→l.length=m.length→val b l=val b m→l=m
 |[],[],_,_,_,_=>rfl
 |[],_::_,_,_,h,_=>by simp at h
 |_::_,[],_,_,h,_=>by simp at h
 |x::l,y::m,h,k,e,v=>by
  simp only [val] at v
  have h1:=h.head
  have h2:=k.head
  have hx:x=y:=by
   have:=congrArg (· %b) v
   simpa [Nat.add_mul_mod_self_left,Nat.mod_eq_of_lt h1,Nat.mod_eq_of_lt h2] using this
  subst hx
  have:b* val b l=b* val b m:=by omega
  have:=Nat.eq_of_mul_eq_mul_left (by omega) this
  rw [val_inj h.tail k.tail (by simpa using e) this]
theorem gS {b n k:Nat} (hb:2≤b) (h:n<b^k):(dg b n).length≤k:=by
 induction k generalizing n with
 |zero=>have:n=0:=by simpa using h
        subst this;simp [dH]
 |succ k ih=>
  by_cases hn:n=0
  · subst hn;simp [dH]
  · rw [dw hb (by omega),List.length_cons]
    have:n / b<b^k:=Nat.div_lt_of_lt_mul (by rw [Nat.pow_succ] at h;rw [Nat.mul_comm];exact h)
    have:=ih this
    omega
theorem cz {b n:Nat} (hb:2≤b):n<b^(dg b n).length:=by
 have:=cT (bU hb n)
 rwa [bP hb] at this
theorem nE {b n:Nat} (hb:2≤b) (hn:0<n):b^((dg b n).length - 1)≤n:=by
 induction n using Nat.strongRecOn with
 |_ n ih=>
  rw [dw hb hn,List.length_cons,Nat.add_sub_cancel]
  by_cases h:n / b=0
  · rw [h,dH];simp;omega
  · have h1:=ih _ (Nat.div_lt_self hn (by omega)) (Nat.pos_of_ne_zero h)
    have h2:0<(dg b (n / b)).length:=by
     rw [dw hb (by omega)];simp
    have:b^(dg b (n / b)).length=b^((dg b (n / b)).length - 1)* b:=by
     rw [←Nat.pow_succ];congr 1;omega
    rw [this]
    calc b^((dg b (n / b)).length - 1)* b≤(n / b)* b:=Nat.mul_le_mul_right _ h1
     _≤n:=Nat.div_mul_le_self n b
theorem we {b x:Nat} (hb:2≤b) (hx:x<b) (n:Nat) (h:0<x∨0<n):dg b (x+b* n)=x::dg b n:=by
 have hp:0<x+b* n:=by
  rcases h with h|h
  · omega
  · have:0<b* n:=Nat.mul_pos (by omega) h
    omega
 rw [dw hb hp,Nat.add_mul_mod_self_left,Nat.mod_eq_of_lt hx,Nat.add_mul_div_left _ _ (by omega),Nat.div_eq_of_lt hx,Nat.zero_add]
theorem BE {b:Nat} (hb:2≤b):∀{l:List Nat} {x:Nat},aZ b (l++[x])→0<x→dg b (val b (l++[x]))=l++[x]
 |[],x,h,hx=>by
  have hd:=h x (by simp)
  have:=we hb hd 0 (.inl hx)
  simpa [val,dH] using this
 |y::l,x,h,hx=>by
  have hd:y<b:=h y (by simp)
  have h1:aZ b (l++[x]):=fun z hz=>h z (by simp at hz ⊢;exact .inr hz)
  have hv:0<val b (l++[x]):=by
   rw [jb]
   have:0<b^l.length* val b [x]:=Nat.mul_pos (Nat.pow_pos (by omega)) (by simp [val];exact hx)
   omega
  simp only [List.cons_append,val]
  rw [we hb hd _ (.inr hv),BE hb h1 hx]
theorem rP {b:Nat} (l:List Nat):val b (l++[0])=val b l:=by simp [jb,val]
theorem yd {b:Nat}:∀n,val b (List.replicate n 0)=0
 |0=>rfl
 |n+1=>by simp [List.replicate_succ,val,yd n]
theorem CN {b:Nat} (hb:2≤b) {l:List Nat} (h:aZ b l) (hl:l=[]∨∃m x,l=m++[x]∧0<x):dg b (val b l)=l:=by
 rcases hl with rfl|⟨m,x,rfl,hx⟩
 · rfl
 · exact BE hb h hx
theorem BC {b n:Nat} (hb:2≤b) (hn:0<n):∃m x,dg b n=m++[x]∧0<x∧x<b:=by
 have hl:dg b n≠[]:=by rw [dw hb hn];simp
 refine ⟨(dg b n).dropLast,(dg b n).getLast hl,(List.dropLast_concat_getLast hl).symm, ?_,bU hb n _ (List.getLast_mem hl)⟩
 have h1:=nE hb hn
 have h2:=bP hb n
 rw [←List.dropLast_concat_getLast hl,jb,List.length_dropLast] at h2
 have h3:val b (dg b n).dropLast<b^((dg b n).length - 1):=by
  have:=cT (b:=b) (l:=(dg b n).dropLast) (fun x hx=>bU hb n x ((List.dropLast_sublist _).subset hx))
  simpa using this
 rcases Nat.eq_zero_or_pos ((dg b n).getLast hl) with h|h
 · simp [h,val] at h2;omega
 · exact h
end Go.Proofs.YtibbgjafjhcemaaGreatDoor.Cul
set_option maxRecDepth 100000
namespace Go.Proofs.YtibbgjafjhcemaaGreatDoor.Cul
open Go Go.RowKit
def us (l:List Nat):List PV:=l.map ai
def nat (l:List Nat):PV:= .sl 1 l.length (us l)
def t0:Cl:=bM []
theorem W6 (k n m:Nat) (cs ds:List PV) (x:Nat):ay MD t0 k 146 0 ⟨[(0, .pv (.sl 1 n cs))],[],[],[]⟩ [.c true, .a 11 [ai x], .c true, .t 19 m ds]=
 some ((Xt.normal,St.mk [(0,AV.pv (PV.sl 1 m ds))] [] [] []),[],[decide ((↑n:Int)>(0:Int))=true,aK cs 1 (IntKind.i64.wrap ((↑n:Int) - (1:Int))) n [PV.lit (Value.int IntKind.u32 (↑x:Int))],((↑x:Int)==(0:Int))=true,(0:Int)≤(0:Int)∧(0:Int)≤IntKind.i64.wrap ((↑n:Int) - (1:Int))∧IntKind.i64.wrap ((↑n:Int) - (1:Int))≤(↑n:Int),(IntKind.i64.wrap ((↑n:Int) - (1:Int))).toNat - Int.toNat (0:Int)=m,cF cs 0 (((IntKind.i64.wrap ((↑n:Int) - (1:Int))).toNat - Int.toNat (0:Int))* (1:Nat)) ds]):=by kernel_rfl
theorem W7 (k n:Nat) (cs:List PV) (x:Nat):ay MD t0 k 146 0 ⟨[(0, .pv (.sl 1 n cs))],[],[],[]⟩ [.c true, .a 11 [ai x], .c false]=
 some ((Xt.exit 0,St.mk [(0,AV.pv (PV.sl 1 n cs)),(14,AV.pv (PV.lit (Value.bool false)))] [] [] []),[],[decide ((↑n:Int)>(0:Int))=true,aK cs 1 (IntKind.i64.wrap ((↑n:Int) - (1:Int))) n [PV.lit (Value.int IntKind.u32 (↑x:Int))],((↑x:Int)==(0:Int))=false]):=by kernel_rfl
theorem W8 (k n:Nat) (cs:List PV):ay MD t0 k 146 0 ⟨[(0, .pv (.sl 1 n cs))],[],[],[]⟩ [.c false]=
 some ((Xt.exit 0,St.mk [(0,AV.pv (PV.sl 1 n cs)),(14,AV.pv (PV.lit (Value.bool false)))] [] [] []),[],[decide ((↑n:Int)>(0:Int))=false]):=by kernel_rfl
theorem OA (k n m:Nat) (cs ds:List PV):aA MD t0 k 146 [.sl 1 n cs] [.l (.exit 0) ⟨[(0, .pv (.sl 1 m ds)),(14, .pv (bv false))],[],[],[]⟩]=
 some (RV.mk (PV.sl 1 m ds) none,[aX MD t0 k (146:Nat) (0:Nat) (St.mk [(0,AV.pv (PV.sl 1 n cs))] [] [] []) (Xt.exit 0) (St.mk [(0,AV.pv (PV.sl 1 m ds)),(14,AV.pv (PV.lit (Value.bool false)))] [] [] [])]):=by kernel_rfl
theorem wrap64 {n:Int} (h1: -(2^63)≤n) (h2:n<2^63):IntKind.i64.wrap n=n:=by
 unfold IntKind.wrap IntKind.bits IntKind.signed
 simp only
 have e1:(2:Int)^64=18446744073709551616:=by decide
 have e2:(2:Int)^(64 - 1)=9223372036854775808:=by decide
 rw [e1,e2]
 split
 · rename_i h;simp only [Bool.true_and,decide_eq_true_eq] at h;omega
 · rename_i h;simp only [Bool.true_and,decide_eq_true_eq] at h;omega
theorem cw (l:List Nat):(us l).length=l.length:=by simp [us]
theorem Nt {l:List Nat} {i x:Nat} (h:l[i]? =some x):row (us l) 1 i=[ai x]:=by
 have hi:i<l.length:=by
  rcases Nat.lt_or_ge i l.length with h'|h'
  · exact h'
  · simp [List.getElem?_eq_none h'] at h
 have:(us l)[i]? =some (ai x):=by simp [us,h]
 simp only [row,Nat.mul_one]
 rw [List.drop_eq_getElem_cons (by simpa [us] using hi),List.take_succ_cons,List.take_zero]
 congr 1
 simpa [List.getElem?_eq_getElem (show i<(us l).length by simpa [us] using hi)] using this
theorem cO {l:List Nat} {i x:Nat} {n:Int} (h:l[i]? =some x) (hn:n=(i:Int)):aK (us l) 1 n l.length [ai x]:=by
 have hi:i<l.length:=by
  rcases Nat.lt_or_ge i l.length with h'|h'
  · exact h'
  · simp [List.getElem?_eq_none h'] at h
 subst hn
 exact ⟨⟨by omega,by omega⟩,by rw [Int.toNat_natCast];exact Nt h⟩
theorem iY (l:List Nat) (a n:Nat) {m:List Nat} (h:(l.drop a).take n=m):cF (us l) a n (us m):=by
 show ((l.map ai).drop a).take n=m.map ai
 rw [←List.map_drop,←List.map_take,h]
theorem yb (k:Nat):∀(n:Nat) (l:List Nat),l.length=n→n<2^40→aZ (4294967296:Nat) l→bh (aU MD t0 k 146 0) (n+1) ⟨[(0, .pv (nat l))],[],[],[]⟩=some (.exit 0,⟨[(0, .pv (nat (dg (4294967296:Nat) (val (4294967296:Nat) l)))),(14, .pv (bv false))],[],[],[]⟩)
 |0,l,hl,_,_=>by
  have:l=[]:=List.length_eq_zero_iff.1 hl
  subst this
  exact aW (aq (W8 k 0 []) ⟨rfl,trivial⟩) (by simp)
 |n+1,l,hl,hn,hd=>by
  have hne:l≠[]:=by intro h;subst h;simp at hl
  have e:=List.dropLast_concat_getLast hne
  obtain ⟨x,hx⟩:∃x,x=l.getLast hne:=⟨_,rfl⟩
  obtain ⟨m,hm⟩:∃m,m=l.dropLast:=⟨_,rfl⟩
  rw [←hx,←hm] at e
  subst e
  have hl':m.length=n:=by simpa using hl
  have hw:IntKind.i64.wrap (((m++[x]).length:Int) - 1)=(n:Int):=by
   rw [wrap64]<;>rw [hl]<;>omega
  have hg:(m++[x])[n]? =some x:=by subst hl';simp
  have hr:aK (us (m++[x])) 1 (IntKind.i64.wrap (((m++[x]).length:Int) - 1)) (m++[x]).length [ai x]:=cO hg hw
  have h0:decide (((m++[x]).length:Int)>0)=true:=by simp
  by_cases h:x=0
  · subst h
    refine bz (aq (W6 k _ _ _ (us m) 0) ⟨h0,hr,rfl,⟨by omega,by omega,by omega⟩,rfl, ?_,trivial⟩) ?_
    · exact iY _ _ _ (by rw [hw,←hl'];simp)
    · rw [hw]
      have:=yb k n m hl' (by omega) hd.left
      rw [rP]
      simpa [nat,hl'] using this
  · have:=aW (n:=n+1) (aq (W7 k (m++[x]).length (us (m++[x])) x) ⟨h0,hr,by simpa using h,trivial⟩) (by simp)
    rw [CN (by decide) hd (.inr ⟨m,x,rfl,by omega⟩)]
    exact this
theorem mB (l:List Nat) (h:l.length<2^40) (hd:aZ (4294967296:Nat) l):az P0 146 [nat l] (one (nat (dg (4294967296:Nat) (val (4294967296:Nat) l)))):=
 aj ah (aI aF) (by rfl) (OA (l.length+1) _ _ _ _) ⟨yb _ l.length l rfl h hd,trivial⟩
theorem NY {l:List Nat} {i x:Nat} (h:l[i]? =some x):(us l)[i]? =some (ai x):=by simp [us,h]
theorem gi {α:Type} {l:List α} {i:Nat} {x:α} (h:l[i]? =some x):i<l.length:=by
 rcases Nat.lt_or_ge i l.length with h'|h'
 · exact h'
 · simp [List.getElem?_eq_none h'] at h
theorem KT:bT MD.P 150=some 1:=by kernel_rfl
theorem Nq:ep MD.P 150=false:=by kernel_rfl
theorem NW:(MD.P.underlying 150).isSome=true:=by kernel_rfl
theorem mI:MD.P.bytesOf 150=4:=by kernel_rfl
theorem ij {l:List Nat} {o i x:Nat} (h:l[i]? =some x) (ho:o=i):Ld MD.P 150 (us l) o (ai x):=by
 subst ho
 have:=gi h
 show ek MD.P 150 (us l) o=some (ai x)
 simp only [ek,KT,Option.bind_some,Nq,NW]
 rw [if_pos (by rw [cw];omega)]
 simp [NY h]
theorem eT {l m:List Nat} {o i y:Nat} (h:l.set i y=m) (hi:i<l.length) (ho:o=i):bZ (us l) o [ai y] (us m):=by
 subst ho h
 show splice (us l) o [ai y]=us (l.set o y)
 simp only [splice,us,List.map_set,List.length_singleton]
 rw [List.set_eq_take_append_cons_drop,if_pos (by simpa using hi),List.append_assoc];rfl
theorem iU {n:Nat}:fC [PV.lit (.int .u32 0)] n (us (List.replicate n 0)):=by
 show bl _ n=_
 induction n with
 |zero=>rfl
 |succ n ih=>simp only [bl,List.replicate_succ,us,List.map_cons] at ih ⊢;rw [ih];rfl
theorem aR {a:Int} {m:Nat} (h:a=(m:Int)) (hm:m<2^63):IntKind.i64.wrap a=(m:Int):=by
 subst h;rw [wrap64]<;>omega
theorem hY {a:Int} {m:Nat} (h:a=(m:Int)) (hm:m<2^32):IntKind.u32.wrap a=(m:Int):=by
 subst h
 unfold IntKind.wrap IntKind.bits IntKind.signed
 simp only
 have e1:(2:Int)^32=4294967296:=by decide
 rw [e1]
 simp only [Bool.false_and]
 rw [Int.emod_eq_of_lt (by omega) (by omega)]
 simp
theorem gP (a b:Nat):(a:Int).tdiv (b:Int)=((a / b:Nat):Int):=by
 rw [Int.tdiv_eq_ediv_of_nonneg (by omega)];rfl
theorem fQ (a b:Nat):(a:Int).tmod (b:Int)=((a%b:Nat):Int):=by
 rw [Int.tmod_eq_emod_of_nonneg (by omega)];rfl
theorem Ft {x z r:Nat} (hx:x<2^r) (h:x+2^r* z<2^32) (y:Nat) (hy:y=x+2^r* z):IntKind.u32.wrap ((BitVec.ofInt IntKind.u32.bits (x:Int)|||BitVec.ofInt IntKind.u32.bits ((2^r* z:Nat):Int)).toNat:Int)=(y:Int):=by
 have hp:0<2^r:=Nat.pow_pos (by omega)
 have e:(BitVec.ofInt IntKind.u32.bits (x:Int)|||BitVec.ofInt IntKind.u32.bits ((2^r* z:Nat):Int)).toNat=y:=by
  rw [BitVec.toNat_or,BitVec.ofInt_natCast,BitVec.ofInt_natCast,BitVec.toNat_ofNat,BitVec.toNat_ofNat]
  show x%2^32|||(2^r* z)%2^32=y
  rw [Nat.mod_eq_of_lt (by omega),Nat.mod_eq_of_lt (by omega),Nat.or_comm,←Nat.two_pow_add_eq_or_of_lt hx,hy,Nat.add_comm]
 rw [e]
 exact hY rfl (by omega)
end Go.Proofs.YtibbgjafjhcemaaGreatDoor.Cul
namespace Go.Proofs.YtibbgjafjhcemaaGreatDoor.Cul
def aS (s:ByteArray):List Nat:=(s.data.toList.map (·.toNat)).reverse
theorem bL (s:ByteArray):(aS s).length=s.size:=by
 simp only [aS,List.length_reverse,List.length_map,Array.length_toList]
 rfl
theorem dz (s:ByteArray):aZ 256 (aS s):=by
 intro x hx
 simp only [aS,List.mem_reverse,List.mem_map] at hx
 obtain ⟨y,_,rfl⟩:=hx
 exact y.toNat_lt
def bI (s:ByteArray):Nat:=val 256 (aS s)
def cellAt (c:Nat) (bs:List Nat) (i j:Nat):Nat:=val 256 ((bs.drop (c* j)).take (min c (i - c* j)))
def bD (c:Nat) (bs:List Nat) (i n:Nat):List Nat:=(List.range n).map (cellAt c bs i)
theorem dR (c:Nat) (bs:List Nat) (i n:Nat):(bD c bs i n).length=n:=by simp [bD]
theorem qO (c:Nat) (bs:List Nat) (n:Nat):bD c bs 0 n=List.replicate n 0:=by
 apply List.ext_getElem
 · simp [bD]
 · intro j h1 h2
   simp [bD,cellAt,val]
theorem eM {b:Nat} {l:List Nat} (h:aZ b l) (n:Nat):aZ b (l.take n):=fun x hx=>h x (List.mem_of_mem_take hx)
theorem jA {b:Nat} {l:List Nat} (h:aZ b l) (n:Nat):aZ b (l.drop n):=fun x hx=>h x (List.mem_of_mem_drop hx)
theorem qM {c:Nat} {bs:List Nat} (h:aZ 256 bs) (i j:Nat):cellAt c bs i j<256^min c (i - c* j):=by
 have h1:=cT (eM (jA h (c* j)) (min c (i - c* j)))
 refine Nat.lt_of_lt_of_le h1 (Nat.pow_le_pow_right (by omega) ?_)
 simp;omega
theorem Ea {c:Nat} (hc:0<c) {bs:List Nat} {i j:Nat} (h:j≠i / c):cellAt c bs (i+1) j=cellAt c bs i j:=by
 unfold cellAt
 have e:min c (i+1 - c* j)=min c (i - c* j):=by
  rcases Nat.lt_or_ge j (i / c) with h1|h1
  · have h2:c* (j+1)≤i:=by
      have:=Nat.mul_le_mul_left c (show j+1≤i / c from h1)
      exact Nat.le_trans this (Nat.mul_div_le i c)
    rw [Nat.mul_add] at h2
    omega
  · have h2:i / c<j:=by omega
    have h3:i<c* j:=by
     have:=(Nat.div_lt_iff_lt_mul hc).1 h2
     rwa [Nat.mul_comm] at this
    omega
 rw [e]
theorem ct {b:Nat} {l:List Nat} {m x:Nat} (h:l[m]? =some x):val b (l.take (m+1))=val b (l.take m)+b^m* x:=by
 have hm:m<l.length:=by
  rcases Nat.lt_or_ge m l.length with h'|h'
  · exact h'
  · simp [List.getElem?_eq_none h'] at h
 rw [List.take_add_one,h,Option.toList_some,jb]
 simp [val,List.length_take,Nat.min_eq_left (Nat.le_of_lt hm)]
theorem D9 {c:Nat} (hc:0<c) {bs:List Nat} {i x:Nat} (h:bs[i]? =some x):cellAt c bs (i+1) (i / c)=cellAt c bs i (i / c)+256^(i%c)* x:=by
 unfold cellAt
 have e:c* (i / c)+i%c=i:=Nat.div_add_mod i c
 have hm:i%c<c:=Nat.mod_lt _ hc
 have e1:min c (i+1 - c* (i / c))=i%c+1:=by omega
 have e2:min c (i - c* (i / c))=i%c:=by omega
 rw [e1,e2]
 apply ct
 rw [List.getElem?_drop,e,h]
theorem qN {c:Nat} (hc:0<c) {bs:List Nat} {i n x:Nat} (h:bs[i]? =some x):(bD c bs i n).set (i / c) (cellAt c bs i (i / c)+256^(i%c)* x)=bD c bs (i+1) n:=by
 apply List.ext_getElem
 · simp [bD]
 · intro j h1 h2
   simp only [bD,List.length_set,List.length_map,List.length_range] at h1
   rw [List.getElem_set]
   split
   · rename_i e
     subst e
     simp [bD,D9 hc h]
   · rename_i e
     simp [bD,Ea hc (fun h=>e h.symm)]
theorem oe {c:Nat} (hc:0<c):∀(n:Nat) (bs:List Nat),bs.length≤c* n→val (256^c) (bD c bs bs.length n)=val 256 bs
 |0,bs,h=>by
  have:bs=[]:=List.length_eq_zero_iff.1 (by omega)
  subst this;rfl
 |n+1,bs,h=>by
  have hd:(bs.drop c).length≤c* n:=by rw [List.length_drop];rw [Nat.mul_add] at h;omega
  have ih:=oe hc n (bs.drop c) hd
  have e:bD c bs bs.length (n+1)=val 256 (bs.take c)::bD c (bs.drop c) (bs.drop c).length n:=by
   simp only [bD,List.range_succ_eq_map,List.map_cons,List.map_map]
   congr 1
   · simp only [cellAt,Nat.mul_zero,List.drop_zero,Nat.sub_zero]
     rcases Nat.le_total c bs.length with h1|h1
     · rw [Nat.min_eq_left h1]
     · rw [Nat.min_eq_right h1,List.take_of_length_le (Nat.le_refl _),List.take_of_length_le h1]
   · apply List.map_congr_left
     intro j _
     simp only [Function.comp,cellAt,List.drop_drop,List.length_drop]
     rw [show c* j.succ=c+c* j by rw [Nat.mul_succ];omega,show bs.length - (c+c* j)=bs.length - c - c* j by omega]
  rw [e,val,ih]
  have:=jb (b:=256) (bs.take c) (bs.drop c)
  rw [List.take_append_drop] at this
  rw [this]
  rcases Nat.le_total c bs.length with h1|h1
  · rw [List.length_take,Nat.min_eq_left h1]
  · rw [List.drop_of_length_le h1];simp [val]
theorem sP {c:Nat} {bs:List Nat} (h:aZ 256 bs) (i n:Nat):aZ (256^c) (bD c bs i n):=by
 intro x hx
 simp only [bD,List.mem_map] at hx
 obtain ⟨j,_,rfl⟩:=hx
 exact Nat.lt_of_lt_of_le (qM h i j) (Nat.pow_le_pow_right (by omega) (by omega))
theorem lO {s:ByteArray} {i:Nat} (h:i<s.size):∃x,(aS s)[i]? =some x∧(s[s.size - 1 - i]?).map (·.toNat)=some x:=by
 have h2:s.size - 1 - i<s.size:=by omega
 have hz:s.size=s.data.size:=rfl
 refine ⟨s[s.size - 1 - i].toNat, ?_, ?_⟩
 · simp only [aS]
   rw [List.getElem?_reverse (by rw [List.length_map,Array.length_toList];exact h)]
   simp only [List.length_map,Array.length_toList,List.getElem?_map]
   have:s.data.size=s.size:=rfl
   rw [this,List.getElem?_eq_getElem (by rw [Array.length_toList];exact h2)]
   rfl
 · rw [getElem?_pos s _ h2];rfl
def af (n:Nat):ByteArray:=⟨((dg 256 n).reverse.map (fun x=>UInt8.ofNat x)).toArray⟩
theorem cU (n:Nat):aS (af n)=dg 256 n:=by
 simp only [aS,af,List.map_map]
 have:List.map ((fun x=>x.toNat) ∘ fun x=>UInt8.ofNat x) (dg 256 n).reverse=(dg 256 n).reverse:=by
  rw [List.map_eq_iff]
  intro i
  cases h:(dg 256 n).reverse[i]? with
  |none=>simp
  |some x=>
   have hx:x<256:=bU (by decide) n x (List.mem_reverse.1 (List.mem_of_getElem? h))
   simp only [Option.map_some,Function.comp,Option.some.injEq]
   rw [UInt8.toNat_ofNat',Nat.mod_eq_of_lt hx]
 rw [this,List.reverse_reverse]
theorem uq {s t:ByteArray} (h:aS s=aS t):s=t:=by
 have h1:s.data.toList.map (·.toNat)=t.data.toList.map (·.toNat):=by
  have:=congrArg List.reverse h
  simpa [aS] using this
 have h2:s.data.toList=t.data.toList:=by
  have key:∀(l m:List UInt8),l.map (·.toNat)=m.map (·.toNat)→l=m:=by
   intro l
   induction l with
   |nil=>intro m h;cases m<;>simp_all
   |cons a l ih=>intro m h;cases m with
    |nil=>simp at h
    |cons b m=>
     simp only [List.map_cons,List.cons.injEq] at h
     rw [ih m h.2,UInt8.toNat_inj.1 h.1]
  exact key _ _ h1
 have h3:s.data=t.data:=Array.toList_inj.1 h2
 cases s;cases t;simp_all
theorem fP (n:Nat):bI (af n)=n:=by rw [bI,cU,bP (by decide)]
theorem Ff:af 0=⟨#[]⟩:=rfl
def CC (s:ByteArray):Prop:=aS s=[]∨∃m x,aS s=m++[x]∧0<x
theorem lf {s:ByteArray} (h:CC s):af (bI s)=s:=by
 apply uq
 rw [cU,bI,CN (by decide) (dz s) h]
theorem E6 (n:Nat):CC (af n):=by
 unfold CC
 rw [cU]
 rcases Nat.eq_zero_or_pos n with rfl|h
 · exact .inl rfl
 · obtain ⟨m,x,e,h1,_⟩:=BC (b:=256) (by decide) h
   exact .inr ⟨m,x,e,h1⟩
theorem y8 (s:ByteArray) (i j:Nat):(s.extract i j).data.toList=(s.data.toList.drop i).take (j - i):=by
 rw [ByteArray.data_extract]
 simp [List.take_drop,Array.toList_extract]
theorem jg {s:ByteArray} {n:Nat} (h:s.size=n+1):∃b,s[0]? =some b∧aS s=aS (s.extract 1 s.size)++[b.toNat]:=by
 have hz:s.size=s.data.toList.length:=rfl
 cases hl:s.data.toList with
 |nil=>rw [hl,h] at hz;simp at hz
 |cons c t=>
  refine ⟨c, ?_, ?_⟩
  · rw [getElem?_pos s 0 (by omega)]
    congr 1
    have h3:0<s.data.size:=by
     have:s.data.size=s.size:=rfl
     omega
    show s.data[0]'h3=c
    have:s.data.toList[0]'(by rw [hl];simp)=c:=by simp [hl]
    simpa using this
  · simp only [aS,y8,hl,List.drop_one,List.tail_cons,List.map_cons,List.reverse_cons]
    congr 2
    rw [List.take_of_length_le]
    rw [hl,List.length_cons] at hz
    omega
end Go.Proofs.YtibbgjafjhcemaaGreatDoor.Cul
namespace Go.Proofs.YtibbgjafjhcemaaGreatDoor.Cul
open Go Go.RowKit
noncomputable def bJ {α:Type} (pre:α→Prop) (enc:α→List PV) (g:α→RV):List PV→Option RV:=fun args=>by
 classical exact if h:∃a,pre a∧enc a=args then some (g h.choose) else none
theorem aO {α:Type} {pre:α→Prop} {enc:α→List PV} {g:α→RV} (hi:∀a b,enc a=enc b→g a=g b) {a:α} (h:pre a):bJ pre enc g (enc a)=some (g a):=by
 have hx:∃b,pre b∧enc b=enc a:=⟨a,h,rfl⟩
 unfold bJ
 rw [dif_pos hx]
 exact congrArg some (hi _ _ hx.choose_spec.2)
theorem ax {α:Type} {P:Program} {f:Nat} {pre:α→Prop} {enc:α→List PV} {g:α→RV} (h:∀a,pre a→az P f (enc a) (g a)):∀args r,bJ pre enc g args=some r→az P f args r:=by
 intro args r e
 unfold bJ at e
 split at e
 · rename_i hx
   simp only [Option.some.injEq] at e
   subst e
   have:=h _ hx.choose_spec.1
   rwa [hx.choose_spec.2] at this
 · simp at e
noncomputable def xZ {α:Type} (pre:α→Prop) (enc:α→List MA) (g:α→MR×List PV):List MA→Option (MR×List PV):=fun args=>by
 classical exact if h:∃a,pre a∧enc a=args then some (g h.choose) else none
theorem vH {α:Type} {pre:α→Prop} {enc:α→List MA} {g:α→MR×List PV} (hi:∀a b,enc a=enc b→g a=g b) {a:α} (h:pre a):xZ pre enc g (enc a)=some (g a):=by
 have hx:∃b,pre b∧enc b=enc a:=⟨a,h,rfl⟩
 unfold xZ
 rw [dif_pos hx]
 exact congrArg some (hi _ _ hx.choose_spec.2)
theorem vI {α:Type} {P:Program} {f:Nat} {pre:α→Prop} {enc:α→List MA} {g:α→MR×List PV} (h:∀a,pre a→iV P f (enc a) (g a).1 (g a).2):∀ms r cs',xZ pre enc g ms=some (r,cs')→iV P f ms r cs':=by
 intro args r cs' e
 unfold xZ at e
 split at e
 · rename_i hx
   simp only [Option.some.injEq] at e
   have:=h _ hx.choose_spec.1
   rw [e,hx.choose_spec.2] at this
   exact this
 · simp at e
end Go.Proofs.YtibbgjafjhcemaaGreatDoor.Cul
