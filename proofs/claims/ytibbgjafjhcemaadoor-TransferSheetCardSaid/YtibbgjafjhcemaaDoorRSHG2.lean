/- Part of a proof by an abstract machine for the program's code: lemmas, without conditions of their own beyond those that each states. (Made smaller by a program: short names, no comments.) -/
import Derived.LoopN
import Derived.Laws.Sem
import Derived.Test.YtibbgjafjhcemaaDoorCards
import Derived.Test.YtibbgjafjhcemaaDoorTie
import Derived.WalkKit
import Derived.ProofKit
import Derived.OpenShut
import Derived.Deep.DeepHandedRow
import Derived.Lib.LaidTab
import Derived.Test.YtibbgjafjhcemaaDoorProg
import Derived.Laws.Strings
import Derived.Test.YtibbgjafjhcemaaDoorRSHG1
set_option linter.unusedVariables false
set_option linter.unusedSimpArgs false
namespace Go.Proofs.YtibbgjafjhcemaaDoor.Cul
open Go Go.RowKit
section
variable {P:Program} {base:Nat} {w w0:World} {Pr bg:aD} {bk:Key→Nat} {st st':St} {a:Act} {N:Nat} {ops:Array Oper} {call:Cl} {bf:eM} {it:Nat→List PV→Option (Nat×List (List PV))}
theorem Good.val (G:Good base w0 bg N bf st a w) {x:Operand} {v:Value} (h:st.val x=some v):a.eval x=v:=by
 obtain ⟨Pr,bk,I,_⟩:=G
 exact ff I h
theorem yl {F:Fence} {m:Nat} {c:Code} {f:St→Option (Xt×St)} {x:Xt} {Q:Exit→Act→World→Prop}
  (hf:∀st a w y s,Good base w0 bg N bf st a w→f st=some (y,s)→∀Q:Exit→Act→World→Prop,(∀a' w',Good base w0 bg N bf s a' w'→Q (toExit y) a' w')→c.wpIn F m P Q a w)
  (hQ:∀a' w',Good base w0 bg N bf st' a' w'→Q (toExit x) a' w'):
  ∀(k:Nat) (st:St) (a:Act) (w:World),Good base w0 bg N bf st a w→aR f k st=some (x,st')→Code.roundsIn F m P c Q k a w
 |0,st,a,w,G,h=>by simp [aR] at h
 |k+1,st,a,w,G,h=>by
  simp only [aR,Option.bind_eq_some_iff] at h
  obtain ⟨⟨y,s⟩,h1,h2⟩:=h
  rw [roundsIn_succ]
  refine hf st a w y s G h1 _ fun a' w' G'=> ?_
  cases y with
  |normal=>exact yl hf hQ k s a' w' G' h2
  |exit id=>simp only [Option.some.injEq,Prod.mk.injEq] at h2;obtain ⟨rfl,rfl⟩:=h2;exact hQ a' w' G'
  |ret=>simp only [Option.some.injEq,Prod.mk.injEq] at h2;obtain ⟨rfl,rfl⟩:=h2;exact hQ a' w' G'
theorem iq (hC:aP P call) (hI:oG P it) (hm:P.follows .mixedOrders=true) (note:Nat→eE) (k:Nat):∀(c:Code),bZ N c=true→∀(F:Fence) (E:mq F) (m:Nat) (w0:World) (bg:aD) (bf:eM),(flat c=true∨(F=Fence.wide∧bf.ds=none∧2≤m))→(iR note c=true∨F.round=none)→(fV note c=true∨Dd base bg bf)→(∀d∈dstsOf c,bf.k d=none)→∀(st:St) (a:Act) (w:World) (x:Xt) (st':St),Good base w0 bg N bf st a w→
  cI P call it (fun g=>aR g k) note c st=some (x,st')→∀Q:Exit→Act→World→Prop,(∀a' w',Good base w0 bg N bf st' a' w'→Q (toExit x) a' w')→c.wpIn F m P Q a w
 | .skip,_,F,E,m,w0,bg,bf,_,_,_,_,st,a,w,x,st',G,h,Q,hQ=>by
   simp only [cI,Option.some.injEq,Prod.mk.injEq] at h
   obtain ⟨rfl,rfl⟩:=h
   exact wpIn_skip (hQ a w G)
 | .region id ops dr,hok,F,E,m,w0,bg,bf,_,hT,hW,fo,st,a,w,x,st',G,h,Q,hQ=>by
   simp only [cI] at h
   simp only [iR,Bool.not_eq_true'] at hT
   simp only [fV] at hW
   split at h
   · rename_i hp
     simp only [Bool.and_eq_true] at hp
     obtain ⟨rfl,_⟩:=hp
     simp only [Option.map_eq_some_iff,Option.bind_eq_some_iff,Prod.mk.injEq] at h
     obtain ⟨s,⟨ls,hl,ho⟩,rfl,rfl⟩:=h
     split at hl
     · rename_i xQ
       exact Ih E m (hT.resolve_left (fun e=>by rw [e] at xQ;simp at xQ)) hC hm hok (fun o ho d hd=>fo d (List.mem_filterMap.2 ⟨o,ho,hd⟩)) (G.nK _ hW) hl fun s' hs' a' w' G'=>hQ a' w' (by rw [←vH ho s' hs'];exact G'.cc _)
     exact KE E m hC hm hok (fun o ho d hd=>fo d (List.mem_filterMap.2 ⟨o,ho,hd⟩)) (G.nK _ hW) hl fun s' hs' a' w' G'=>hQ a' w' (by rw [←vH ho s' hs'];exact G'.cc _)
   simp only [Option.map_eq_some_iff,Prod.mk.injEq] at h
   obtain ⟨s,hs,rfl,rfl⟩:=h
   exact yh E m hC hm hok (fun o ho d hd=>fo d (List.mem_filterMap.2 ⟨o,ho,hd⟩)) (G.nK _ hW) hs fun a' w' G'=>hQ a' w' (G'.cc _)
 | .seq p q,hok,F,E,m,w0,bg,bf,hF,hT,hW,fo,st,a,w,x,st',G,h,Q,hQ=>by
   simp only [bZ,Bool.and_eq_true] at hok
   simp only [flat,Bool.and_eq_true] at hF
   simp only [iR,Bool.and_eq_true] at hT
   simp only [fV,Bool.and_eq_true] at hW
   simp only [cI,Option.bind_eq_some_iff] at h
   obtain ⟨⟨y,s⟩,h1,h2⟩:=h
   refine wpIn_seq (iq hC hI hm note k p hok.1 F E m w0 bg bf (hF.imp And.left id) (hT.imp And.left id) (hW.imp And.left id) (fun d hd=>fo d (List.mem_append_left _ hd)) st a w y s G h1 _ fun a' w' G'=> ?_)
   cases y with
   |normal=>exact iq hC hI hm note k q hok.2 F E m w0 bg bf (hF.imp And.right id) (hT.imp And.right id) (hW.imp And.right id) (fun d hd=>fo d (List.mem_append_right _ hd)) s a' w' x st' G' h2 Q hQ
   |exit id=>simp only [Option.some.injEq,Prod.mk.injEq] at h2;obtain ⟨rfl,rfl⟩:=h2;exact hQ a' w' G'
   |ret=>simp only [Option.some.injEq,Prod.mk.injEq] at h2;obtain ⟨rfl,rfl⟩:=h2;exact hQ a' w' G'
 | .cond c t e,hok,F,E,m,w0,bg,bf,hF,hT,hW,fo,st,a,w,x,st',G,h,Q,hQ=>by
   simp only [bZ,Bool.and_eq_true] at hok
   simp only [flat,Bool.and_eq_true] at hF
   simp only [iR,Bool.and_eq_true] at hT
   simp only [fV,Bool.and_eq_true] at hW
   simp only [cI,Option.bind_eq_some_iff] at h
   obtain ⟨v,hv,h⟩:=h
   have Fh:=G.val hv
   split at h
   · exact wpIn_cond_true Fh (iq hC hI hm note k t hok.1 F E m w0 bg bf (hF.imp And.left id) (hT.imp And.left id) (hW.imp And.left id) (fun d hd=>fo d (List.mem_append_left _ hd)) st a w x st' G h Q hQ)
   · exact wpIn_cond_false Fh (iq hC hI hm note k e hok.2 F E m w0 bg bf (hF.imp And.right id) (hT.imp And.right id) (hW.imp And.right id) (fun d hd=>fo d (List.mem_append_right _ hd)) st a w x st' G h Q hQ)
   · simp at h
 | .block id c,hok,F,E,m,w0,bg,bf,hF,hT,hW,fo,st,a,w,x,st',G,h,Q,hQ=>by
   simp only [bZ] at hok
   simp only [flat] at hF
   simp only [cI,Option.map_eq_some_iff] at h
   obtain ⟨⟨y,s⟩,h1,h2⟩:=h
   refine wpIn_block (iq hC hI hm note k c hok F E m w0 bg bf hF hT hW fo st a w y s G h1 _ fun a' w' G'=> ?_)
   cases y with
   |normal=>simp only [Prod.mk.injEq] at h2;obtain ⟨rfl,rfl⟩:=h2;exact hQ a' w' G'
   |exit j=>
    simp only [toExit,Exit.inBlock]
    simp only at h2
    split at h2
    · rename_i hj;rw [if_pos hj];simp only [Prod.mk.injEq] at h2;obtain ⟨rfl,rfl⟩:=h2;exact hQ a' w' G'
    · rename_i hj;rw [if_neg hj];simp only [Prod.mk.injEq] at h2;obtain ⟨rfl,rfl⟩:=h2;exact hQ a' w' G'
   |ret=>simp only [Prod.mk.injEq] at h2;obtain ⟨rfl,rfl⟩:=h2;exact hQ a' w' G'
 | .loop c,hok,F,E,m,w0,bg,bf,hF,hT,hW,fo,st,a,w,x,st',G,h,Q,hQ=>by
   simp only [bZ] at hok
   simp only [flat] at hF
   simp only [cI] at h
   exact wpIn_loop_rounds k (yl (f:=cI P call it (fun g=>aR g k) note c) (fun st a w y s G h Q hQ=>iq hC hI hm note k c hok F E m w0 bg bf hF hT hW fo st a w y s G h Q hQ) hQ k st a w G h)
 | .rangeFunc g ps fA body,hok,F,E,m,w0,bg,bf,hF,hT,hW,fo,st,a,w,x,st',G,h,Q,hQ=>by
   simp only [bZ,Bool.and_eq_true] at hok
   obtain ⟨⟨⟨⟨Ml,zU⟩,Mz⟩,MB⟩,hps⟩:=hok
   rcases hF with hF|⟨rfl,hz,h1⟩
   · simp [flat] at hF
   · simp only [cI,Option.bind_eq_some_iff] at h
     obtain ⟨p,hp,h⟩:=h
     split at h
     · rename_i f caps
       simp only [Option.bind_eq_some_iff] at h
       obtain ⟨⟨n,xs⟩,hit,h⟩:=h
       split at h
       · rename_i hn
         obtain ⟨hn,FA⟩:=hn
         simp only [Bool.and_eq_true] at FA
         simp only at hn;subst hn
         have hA:Part P base N (m - 1 - 1) (ps.toList++(dstsOf fA++dstsOf body)) fA (cI P call it (fun g=>aR g k) note fA):=fun l w0 bg bf st a w x s hk G h Q hQ=>
          iq hC hI hm note k fA Mz _ (uP l) (m - 1 - 1) w0 bg bf (.inl Ml) (.inl FA.1.1) (.inl FA.2.1) (fun d hd=>hk d (by rw [List.contains_eq_mem];simp [hd])) st a w x s G h Q hQ
         have hB:Part P base N (m - 1 - 1) (ps.toList++(dstsOf fA++dstsOf body)) body (cI P call it (fun g=>aR g k) note body):=fun l w0 bg bf st a w x s hk G h Q hQ=>
          iq hC hI hm note k body MB _ (uP l) (m - 1 - 1) w0 bg bf (.inl zU) (.inl FA.1.2) (.inl FA.2.2) (fun d hd=>hk d (by rw [List.contains_eq_mem];simp [hd])) st a w x s G h Q hQ
         exact AR hI h1 hA hB G hz (fun d hd=>fo d (by rw [List.contains_eq_mem] at hd;simpa [dstsOf] using hd)) (fun p hp=>by simpa using List.all_eq_true.1 hps p hp) hp hit h hQ
       · simp at h
     · simp at h
 | .exit id,_,F,E,m,w0,bg,bf,_,_,_,_,st,a,w,x,st',G,h,Q,hQ=>by
   simp only [cI,Option.some.injEq,Prod.mk.injEq] at h
   obtain ⟨rfl,rfl⟩:=h
   exact wpIn_exit (hQ a w G)
 | .ret,_,F,E,m,w0,bg,bf,_,_,_,_,st,a,w,x,st',G,h,Q,hQ=>by
   simp only [cI,Option.some.injEq,Prod.mk.injEq] at h
   obtain ⟨rfl,rfl⟩:=h
   exact wpIn_ret (hQ a w G)
 | .label _,hok,_,_,_,_,_,_,_,_,_,_,_,_,_,_,_,_,_,_,_=>by simp [bZ] at hok
 | .goto _,hok,_,_,_,_,_,_,_,_,_,_,_,_,_,_,_,_,_,_,_=>by simp [bZ] at hok
end
end Go.Proofs.YtibbgjafjhcemaaDoor.Cul
namespace Go.Proofs.YtibbgjafjhcemaaDoor.Cul
open Go Go.RowKit
theorem DR {N M:Nat} (h:N≤M) {ops:Array Oper} {dr:Bool} (hok:kD N ops dr=true):kD M ops dr=true:=by
 simp only [kD,Bool.and_eq_true] at hok ⊢
 refine ⟨List.all_eq_true.2 fun o ho=> ?_,hok.2⟩
 have:=List.all_eq_true.1 hok.1 o ho
 cases hd:o.dst with
 |none=>rfl
 |some d=>rw [hd] at this;simp only [decide_eq_true_eq] at this ⊢;exact Nat.lt_of_lt_of_le this h
theorem dM {N M:Nat} (h:N≤M):∀{c:Code},bZ N c=true→bZ M c=true
 | .skip,_=>rfl
 | .region ..,hok=>DR h hok
 | .seq ..,hok=>by simp only [bZ,Bool.and_eq_true] at hok ⊢;exact ⟨dM h hok.1,dM h hok.2⟩
 | .cond ..,hok=>by simp only [bZ,Bool.and_eq_true] at hok ⊢;exact ⟨dM h hok.1,dM h hok.2⟩
 | .block _ _,hok=>by simp only [bZ] at hok ⊢;exact dM h hok
 | .loop _,hok=>by simp only [bZ] at hok ⊢;exact dM h hok
 | .rangeFunc _ ps a b,hok=>by
   simp only [bZ,Bool.and_eq_true] at hok ⊢
   obtain ⟨⟨⟨⟨Ml,zU⟩,Mz⟩,MB⟩,hps⟩:=hok
   refine ⟨⟨⟨⟨Ml,zU⟩,dM h Mz⟩,dM h MB⟩,List.all_eq_true.2 fun p hp=> ?_⟩
   have:=List.all_eq_true.1 hps p hp
   simp only [decide_eq_true_eq] at this ⊢
   exact Nat.lt_of_lt_of_le this h
 | .exit _,_=>rfl
 | .ret,_=>rfl
theorem qh:∀(l:List PV) (i t:Nat) (av:AV),look (slotsOf i l) t=some av→∃j p,t=i+j∧l[j]? =some p∧av= .pv p
 |[],i,t,av,h=>by simp [slotsOf,look] at h
 |p::l,i,t,av,h=>by
  simp only [slotsOf,look] at h
  split at h
  · rename_i e;exact ⟨0,p,by omega,rfl,(Option.some.inj h).symm⟩
  · obtain ⟨j,q,h1,h2,h3⟩:=qh l (i+1) t av h
    exact ⟨j+1,q,by omega,by simpa using h2,h3⟩
section
variable {P:Program} {base:Nat} {w w0:World} {Pr bg:aD} {bk:Key→Nat} {bf:eM} {st st':St} {a:Act} {N:Nat} {call:Cl}
theorem xI {args:List PV} {vs:List Value} (hp:∀b o,Pr b o→b<w.heap.size) (hr:aT w Pr args vs) (k:Nat):
  Inv w.heap.size w Pr (fun _=>0) (St.enter args) { tmps:=vs.toArray++Array.replicate k undef,defers:=[]} (vs.length+k):=by
 have hnl:∀x,¬live (St.enter args) x:=by
  intro x hx
  cases x with
  |bx k=>obtain ⟨cs,h⟩:=hx;simp [St.enter,look] at h
  |sx t=>
   rcases hx with ⟨sz,n,cs,h⟩|⟨z,h⟩
   · obtain ⟨j,p,_,_,e⟩:=qh args 0 t _ h;simp at e
   · simp [St.enter,aQ] at h
  |cx k o=>obtain ⟨z,h⟩:=hx;simp [St.enter,aQ] at h
 constructor
 · simp
 · exact ⟨by simp,List.nodup_nil⟩
 · exact Nat.le_refl _
 · exact hp
 · intro t av ht
   obtain ⟨j,p,h1,h2,rfl⟩:=qh args 0 t av ht
   obtain ⟨v,h3,h4⟩:=hr.get j p h2
   refine ⟨v, ?_,h4⟩
   have hj:j<vs.length:=(List.getElem?_eq_some_iff.1 h3).1
   have:t=j:=by omega
   subst this
   rw [Array.getElem?_append_left (by simpa using hj)]
   simpa using h3
 · exact fun x hx=>absurd hx (hnl x)
 · exact fun x _ hx=>absurd hx (hnl x)
 · intro k cs h;simp [St.enter,look] at h
 · intro t z h;simp [St.enter,aQ] at h
 · intro k i z h;simp [St.enter,aQ] at h
 · intro t q h;simp [St.enter,look] at h
theorem E3 (I:Inv base w Pr bk st a N) (r:ResultVar):∃aC aS,Inv base w aC aS (st.fix r) a N∧Kp w Pr w aC∧∀b o,b<base→aC b o→Pr b o:=by
 cases r with
 |cell t ty=>exact ⟨Pr,bk,I,Kp.refl _ _,fun _ _ _ h=>h⟩
 |tmp t=>obtain ⟨aC,aS,h1,h2,h3,_⟩:=I.fY true t;exact ⟨aC,aS,h1,h2,h3⟩
def gT (tmps:Array Value):ResultVar→Sem Value
 | .tmp t=>pure (tmps.getD t undef)
 | .cell g t=>do loadVar t (←asAddr (tmps.getD g undef))
theorem getD_some {tmps:Array Value} {t:Nat} {v:Value} (h:tmps[t]? =some v):tmps.getD t undef=v:=by simp [h]
theorem uI (I:Inv base w Pr bk st a N) {r:ResultVar} {rv:RV} (h:kW P st r=some rv):∃v,(gT a.tmps r).run P w= .ok v w∧Rp w Pr rv.v v∧
  ∀z,rv.gr=some z→∃b o n cap cs,rv.v= .sl z n cs∧v= .slice (some ⟨b,o,none⟩) n cap∧Room w Pr b o n cap z∧o=0∧base≤b∧b<w.heap.size:=by
 cases r with
 |tmp t=>
  simp only [kW] at h
  split at h
  · rename_i p hl
    simp only [Option.some.injEq] at h;subst h
    obtain ⟨v,hv,hr⟩:=I.slots t _ hl
    refine ⟨v,by simp [gT,hv],hr,fun z hz=> ?_⟩
    obtain ⟨o,n,cap,cs,h1,h2,h3,h0⟩:=I.gL t z hz
    have hown:=I.own (.sx t) (.inr ⟨z,hz⟩)
    rw [hl] at h1
    rw [hv] at h2
    exact ⟨_,o,n,cap,cs,by simpa using h1,by simpa using h2,h3,h0,hown.1,hown.2⟩
  · simp at h
 |cell t ty=>
  simp only [kW] at h
  split at h
  · rename_i k o hl
    simp only [Option.bind_eq_some_iff,Option.map_eq_some_iff] at h
    obtain ⟨cs,hb,p,hp,rfl⟩:=h
    obtain ⟨v0,oV,B3⟩:=I.slots t _ hl
    simp only [dQ] at B3
    obtain ⟨⟨T,c,vs,h1,h0,h2,h3⟩,h4⟩:=I.boxes k cs hb
    have vh:w.rangeAt (bk (.bx k)) 0 vs:=g7 h1 h0
    obtain ⟨v,hv,cU,hrow⟩:=mO (w:=w) (Pr:=Pr) hp h2 h3 vh
    refine ⟨v, ?_,cU,fun z hz=> ?_⟩
    · simp only [gT,getD_some oV,B3,asAddr,Sem.run_bind,Sem.run_pure,Result.andThen_ok]
      rw [Nat.zero_add] at hv;exact hv
    · simp only at hz
      split at hz
      · simp at hz
      · rename_i rL
        obtain ⟨MS,Wu⟩:=hrow (by simpa using rL)
        obtain ⟨o',n,cap,cs',dw,e1,e2,e3,e4,e9⟩:=I.iF k o z hz
        have hown:=I.own (.cx k o) ⟨z,hz⟩
        rw [hb] at e1;cases e1
        rw [Wu] at e2
        have e5:w.cell? ⟨bk (.bx k),o,none⟩=some v:=by have:=vh o v MS;rwa [Nat.zero_add] at this
        rw [e5] at e3
        exact ⟨_,o',n,cap,cs',by simpa using e2,by simpa using e3,e4,e9,hown.1,hown.2⟩
  · simp at h
theorem wN (I:Inv base w Pr bk st a N) {aC:aD} (hk:Kp w Pr w aC):∀(caps:List Cap) (vs:List Value) (ps:List PV),vs.length=caps.length→(∀(i:Nat) (c:Cap) (u:Value),caps[i]? =some c→vs[i]? =some u→gB w Pr bk c u)→
  (∀k off,Cap.bp k off∈caps→∀o,aC (bk (.bx k)) o)→dX st caps=some ps→aT w aC ps vs
 |[],[],ps,_,_,_,h=>by simp only [dX,Option.some.injEq] at h;subst h;exact .nil
 |[],v::vs,ps,hl,_,_,_=>by simp at hl
 |c::caps,[],ps,hl,_,_,_=>by simp at hl
 | .pv p::caps,v::vs,ps,hl,hc,hp,h=>by
   simp only [dX,Option.map_eq_some_iff] at h
   obtain ⟨qs,hq,rfl⟩:=h
   exact .cons (Rp.mono hk (hc 0 _ v rfl rfl)) (wN I hk caps vs qs (by simpa using hl) (fun i c u h1 h2=>hc (i+1) c u (by simpa using h1) (by simpa using h2)) (fun k off hm=>hp k off (List.mem_cons_of_mem _ hm)) hq)
 | .bp k off::caps,v::vs,ps,hl,hc,hp,h=>by
   simp only [dX,Option.bind_eq_some_iff,Option.map_eq_some_iff] at h
   obtain ⟨cs,hb,qs,hq,rfl⟩:=h
   refine .cons ?_ (wN I hk caps vs qs (by simpa using hl) (fun i c u h1 h2=>hc (i+1) c u (by simpa using h1) (by simpa using h2)) (fun k off hm=>hp k off (List.mem_cons_of_mem _ hm)) hq)
   have hv:v= .pointer (some ⟨bk (.bx k),off,none⟩):=hc 0 _ v rfl rfl
   obtain ⟨⟨T,c,us,h1,h0,h2,h3⟩,_⟩:=I.boxes k cs hb
   have vh:w.rangeAt (bk (.bx k)) 0 us:=g7 h1 h0
   have iG:=dj vh off
   rw [Nat.zero_add] at iG
   rw [hv]
   exact .el ((aT.mono hk h2).drop off) (fun u hu=>h3 u (List.mem_of_mem_drop hu)) iG (fun i hi=>hp k off (by simp) _)
theorem Bl (I:Inv base w Pr bk st a N) {r:ResultVar} {rv:RV} (h:pP P st r=some rv):∃v aC,(gT a.tmps r).run P w= .ok v w∧Rp w aC rv.v v∧(∀b o,b<base→aC b o→Pr b o)∧(∀b o,aC b o→b<w.heap.size)∧
  ∀z,rv.gr=some z→∃b o n cap cs,rv.v= .sl z n cs∧v= .slice (some ⟨b,o,none⟩) n cap∧Room w aC b o n cap z∧o=0∧base≤b∧b<w.heap.size:=by
 have old:kW P st r=some rv→∃v aC,(gT a.tmps r).run P w= .ok v w∧Rp w aC rv.v v∧(∀b o,b<base→aC b o→Pr b o)∧(∀b o,aC b o→b<w.heap.size)∧
   ∀z,rv.gr=some z→∃b o n cap cs,rv.v= .sl z n cs∧v= .slice (some ⟨b,o,none⟩) n cap∧Room w aC b o n cap z∧o=0∧base≤b∧b<w.heap.size:=fun h=>by
  obtain ⟨v,h1,h2,h3⟩:=uI I h
  exact ⟨v,Pr,h1,h2,fun _ _ _ h=>h,I.bP,h3⟩
 cases r with
 |cell g t=>exact old h
 |tmp t=>
  simp only [pP] at h
  split at h
  · rename_i f caps hl
    simp only [Option.map_eq_some_iff] at h
    obtain ⟨ps,hps,rfl⟩:=h
    obtain ⟨v,hv,vs,rfl,hlen,hcap⟩:=I.slots t _ hl
    obtain ⟨aC,dS⟩:∃aC:aD,∀b o,aC b o↔(Pr b o∨∃k off cs,Cap.bp k off∈caps∧look st.bx k=some cs∧b=bk (.bx k)):=⟨fun b o=>_,fun _ _=>Iff.rfl⟩
    have dF:∀k off,Cap.bp k off∈caps→∃cs,look st.bx k=some cs:=by
     clear hcap hlen hl dS hv old
     intro k off hm
     induction caps generalizing ps with
     |nil=>simp at hm
     |cons c caps ih=>
      cases c with
      |pv p=>
       simp only [dX,Option.map_eq_some_iff] at hps
       obtain ⟨qs,hq,_⟩:=hps
       exact ih qs hq (by simpa using hm)
      |bp k2 o2=>
       simp only [dX,Option.bind_eq_some_iff,Option.map_eq_some_iff] at hps
       obtain ⟨cs,hb,qs,hq,_⟩:=hps
       rcases List.mem_cons.1 hm with e|hm
       · cases e;exact ⟨cs,hb⟩
       · exact ih qs hq hm
    refine ⟨_,aC,by simp [gT,hv], .fn (wN I ⟨fun b o h=>(dS b o).2 (.inl h),fun _ _ _=>rfl⟩ caps vs ps hlen hcap (fun k off hm o=> ?_) hps),fun b o hlt h=> ?_,fun b o h=> ?_,fun z hz=>by simp at hz⟩
    · obtain ⟨cs,hb⟩:=dF k off hm
      exact (dS _ _).2 (.inr ⟨k,off,cs,hm,hb,rfl⟩)
    · rcases (dS b o).1 h with h|⟨k,off,cs,_,hb,rfl⟩
      · exact h
      · have:=(I.own (.bx k) ⟨cs,hb⟩).1;omega
    · rcases (dS b o).1 h with h|⟨k,off,cs,_,hb,rfl⟩
      · exact I.bP b o h
      · exact (I.own (.bx k) ⟨cs,hb⟩).2
  · exact old h
theorem q8:∀(l:List ResultVar) {st:St} {Pr:aD} {bk:Key→Nat} {ps:List PV},Inv base w Pr bk st a N→gW P st l=some ps→
  ∃vs aC,(l.mapM (gT a.tmps)).run P w= .ok vs w∧aT w aC ps vs∧Kp w Pr w aC∧(∀b o,b<base→aC b o→Pr b o)∧∀b o,aC b o→b<w.heap.size
 |[],st,Pr,bk,ps,I,h=>by
  simp only [gW,Option.some.injEq] at h;subst h
  exact ⟨[],Pr,by simp, .nil,Kp.refl _ _,fun _ _ _ h=>h,I.bP⟩
 |r::l,st,Pr,bk,ps,I,h=>by
  simp only [gW,Option.bind_eq_some_iff,Option.map_eq_some_iff] at h
  obtain ⟨rv,Xe,qs,MF,rfl⟩:=h
  obtain ⟨mB,zh,I1,fH,eJ⟩:=E3 I r
  obtain ⟨v,hv,cU,_⟩:=uI I1 Xe
  obtain ⟨vs,lN,h1,h2,h3,h4,h5⟩:=q8 l I1 MF
  exact ⟨v::vs,lN,by simp [List.mapM_cons,hv,h1], .cons (Rp.mono h3 cU) h2,fH.trans h3,fun b o hb h=>eJ b o hb (h4 b o hb h),h5⟩
theorem DX (fn:Func) (tmps:Array Value):results fn tmps=(do let vs ←fn.results.mapM (gT tmps);pure (if h:vs.size=1 then vs[0] else .tuple vs)):=rfl
theorem lK {fn:Func} {tmps:Array Value} {vs:List Value} (h:(fn.results.toList.mapM (gT tmps)).run P w= .ok vs w):(results fn tmps).run P w= .ok (if h:vs.length=1 then vs[0] else .tuple vs.toArray) w:=by
 rw [DX]
 have:fn.results=fn.results.toList.toArray:=by simp
 rw [this,List.mapM_toArray]
 simp only [Sem.run_bind,Sem.run_map,h]
 simp
theorem m7:∀(l:List ResultVar) {st:St} {ps:List PV},gW P st l=some ps→l.length=ps.length
 |[],st,ps,h=>by simp only [gW,Option.some.injEq] at h;subst h;rfl
 |r::l,st,ps,h=>by
  simp only [gW,Option.bind_eq_some_iff,Option.map_eq_some_iff] at h
  obtain ⟨rv,_,qs,MF,rfl⟩:=h
  simp [m7 l MF]
theorem Bm {fn:Func} {rv:RV} (QF:∀b o,bg b o→b<w0.heap.size) (G:Good w0.heap.size w0 bg N bf st a w) (h:kX P st fn.results.toList=some rv):∃v aC,(results fn a.tmps).run P w= .ok v w∧Db w0 bg w aC rv v:=by
 obtain ⟨Pr,bk,I,hb,hp,gq,_⟩:=G
 have join:∀aC,Kp w aC w (fun b o=>aC b o∨bg b o):=fun aC=>⟨fun _ _ h=> .inl h,fun _ _ _=>rfl⟩
 have fw:∀aC:aD,(∀b o,b<w0.heap.size→aC b o→Pr b o)→(∀b o,aC b o→b<w.heap.size)→Fw w0 bg w (fun b o=>aC b o∨bg b o):=fun aC h2 h3=>
  ⟨hb,fun b o h=> .inr h,fun b o hlt h=>h.elim (fun h=>hp b o hlt (h2 b o hlt h)) id,fun b o h=>h.elim (h3 b o) (fun h=>Nat.lt_of_lt_of_le (QF b o h) hb.size)⟩
 unfold kX at h
 split at h
 · rename_i r hl
   obtain ⟨mB,zh,I1,fH,eJ⟩:=E3 I r
   obtain ⟨v,lN,hv,cU,cF,hn2,eT⟩:=Bl I1 h
   refine ⟨v,_, ?_,⟨fw lN (fun b o hlt h=>eJ b o hlt (cF b o hlt h)) hn2,Rp.mono (join lN) cU,fun z hz=> ?_⟩⟩
   · have:=lK (P:=P) (w:=w) (fn:=fn) (tmps:=a.tmps) (vs:=[v]) (by rw [hl];simp [List.mapM_cons,hv])
     simpa using this
   · obtain ⟨b,o,n,cap,cs,h1,h2,h3,h0,h4,h5⟩:=eT z hz
     exact ⟨b,o,n,cap,cs,h1,h2,⟨h3.hz,h3.le,h3.there,fun o' ho=>ho.elim (h3.pr o') (fun h=>absurd (QF b o' h) (by omega))⟩,h0,h4,h5⟩
 · rename_i hl
   simp only [Option.map_eq_some_iff] at h
   obtain ⟨ps,hps,rfl⟩:=h
   obtain ⟨vs,mB,h1,h2,h3,h4,h5⟩:=q8 _ I hps
   have hlen:vs.length≠1:=by
    intro e
    have h6:=m7 _ hps
    rw [h2.length,e] at h6
    obtain ⟨r,hr⟩:=List.length_eq_one_iff.1 h6
    exact hl r hr
   refine ⟨.tuple vs.toArray,_, ?_,⟨fw mB h4 h5, .an (aT.mono (join mB) h2),fun z hz=>by simp at hz⟩⟩
   have:=lK (P:=P) (w:=w) h1
   rw [this,dif_neg hlen]
end
theorem y6 {P:Program} {S:Cl} {it:Nat→List PV→Option (Nat×List (List PV))} (hC:aP P S) (hI:oG P it) (hm:P.follows .mixedOrders=true) {f:Nat} {fn:Func} (hf:P.funcs[f]? =some fn) (hok:ur fn=true) {note:Nat→eE} {k:Nat} {args:List PV} {r:RV}
  (h:uF P S it (fun g=>aR g k) note fn args=some r):aA P f args r:=by
 simp only [Option.bind_eq_some_iff,uF] at h
 obtain ⟨c,hc,⟨x,st'⟩,hrun,hres⟩:=h
 simp only [ur,hc,Bool.and_eq_true,Bool.not_eq_true'] at hok
 refine ⟨⟨fn,c,hf,hc,hok.2⟩,fun vs w Pr hp hr=>callsIn_wide.1 (callsIn_of_wp_marks (F:=Fence.wide) (n:=2) hf hc trivial ?_ rfl)⟩
 have I0:=xI hp hr (fn.ntmps - vs.toArray.size)
 refine iq (base:=w.heap.size) (N:=vs.length+(fn.ntmps - vs.toArray.size)) hC hI hm note k c (dM (by simp;omega) hok.1) Fence.wide lV 2 w Pr ⟨fun _=>none,none⟩ (.inr ⟨rfl,rfl,by omega⟩) (.inr rfl) (.inr ⟨fun _=>rfl,hp⟩) (fun _ _=>rfl) (St.enter args) _ w x st' ⟨Pr,_,I0,Below.refl _ _,fun _ _ _ h=>h,KO.refl _,fun k b e=>by simp at e,fun _ _ _ h1 h2=>⟨h1,h2⟩,fun _ e=>by simp at e⟩ hrun _ fun a' w' G=> ?_
 have fin:∀(hx:kX P st' fn.results.toList=some r),LeavesInM Fence.wide 2 P fn a'.tmps (fun e w'=>∃v aC,e= .returned v∧Db w Pr w' aC r v) a'.defers .returning w':=fun hx=>
  xT (st:=st') rfl rfl (fun tmps w2 G2=>by
   obtain ⟨v,aC,h1,h2⟩:=Bm hp G2 hx
   exact ⟨v,h1,v,aC,rfl,h2⟩) a'.defers a'.tmps w' G
 cases x with
 |normal=>exact fin hres
 |ret=>exact fin hres
 |exit id=>simp at hres
section
variable {P:Program} {base:Nat} {w w0:World} {Pr bg:aD} {bk:Key→Nat} {bf:eM} {st st':St} {a:Act} {N:Nat}
theorem lH {b size:Nat} {mC:List PV} {js:Nat}:∀{ms:List MA} {vs:List Value},m6 w Pr b size mC js ms vs→∀(i t:Nat) (av:AV),look (nM i ms) t=some av→
  ∃j v,t=i+j∧vs[j]? =some v∧((∃p,av= .pv p∧Rp w Pr p v)∨(∃off n,av= .bs gk off js n∧BI b size mC off js n v))
 |_,_, .nil,i,t,av,h=>by simp [nM,look] at h
 |_,_, .p (p:=p) (v:=v) hr hs,i,t,av,h=>by
  simp only [nM,look] at h
  split at h
  · rename_i e;simp only [Option.some.injEq] at h;exact ⟨0,v,by omega,rfl, .inl ⟨p,h.symm,hr⟩⟩
  · obtain ⟨j,u,h1,h2,h3⟩:=lH hs (i+1) t av h
    exact ⟨j+1,u,by omega,by simpa using h2,h3⟩
 |_,_, .g (off:=off) (n:=n) (v:=v) hr hs,i,t,av,h=>by
  simp only [nM,look] at h
  split at h
  · rename_i e;simp only [Option.some.injEq] at h;exact ⟨0,v,by omega,rfl, .inr ⟨off,n,h.symm,hr⟩⟩
  · obtain ⟨j,u,h1,h2,h3⟩:=lH hs (i+1) t av h
    exact ⟨j+1,u,by omega,by simpa using h2,h3⟩
def guarded (w:World) (b:Nat):aD:=fun b' _=>b'≠b∧b'<w.heap.size
theorem Dm {b:Nat} {T:TypeId} {c:Array Value} {cs:List PV} {sz:Nat} {ms:List MA} {vs:List Value} (xN:cZ ms=some cs) (hp:∀b o,Pr b o→b<w.heap.size) (hG:C9 w Pr b T c cs) (hma:m6 w Pr b c.size cs sz ms vs) (k:Nat):
  Inv 0 w (guarded w b) (fun _=>b) (St.eI ms) { tmps:=vs.toArray++Array.replicate k undef,defers:=[]} (vs.length+k):=by
 have p9:b<w.heap.size:=(Array.getElem?_eq_some_iff.1 hG.qI).1
 have hkp:Kp w Pr w (guarded w b):=⟨fun b' o h=>⟨fun e=>hG.free o (e ▸h),hp b' o h⟩,fun _ _ _=>rfl⟩
 have dF:∀j aK,look (St.eI ms).bx j=some aK→j=gk∧aK=cs:=by
  intro j aK h
  simp only [St.eI,xN,look] at h
  split at h
  · rename_i e;simp only [Option.some.injEq] at h;exact ⟨e.symm,h.symm⟩
  · simp at h
 have Wq:look (St.eI ms).bx gk=some cs:=by simp [St.eI,xN,look]
 have hlv:∀x,live (St.eI ms) x→x= .bx gk:=by
  intro x hx
  cases x with
  |bx j=>obtain ⟨aK,h⟩:=hx;rw [(dF j aK h).1]
  |sx t=>
   rcases hx with ⟨sz',n,cs',h⟩|⟨z,h⟩
   · obtain ⟨j,v,_,_,⟨p,e,_⟩|⟨off,n,e,_⟩⟩:=lH hma 0 t _ h<;>simp at e
   · simp [St.eI,aQ] at h
  |cx j o=>obtain ⟨z,h⟩:=hx;simp [St.eI,aQ] at h
 constructor
 · simp
 · exact ⟨by simp,List.nodup_nil⟩
 · exact Nat.zero_le _
 · exact fun b' o h=>h.2
 · intro t av ht
   obtain ⟨j,v,h1,h2,h3⟩:=lH hma 0 t av ht
   have hj:j<vs.length:=(List.getElem?_eq_some_iff.1 h2).1
   obtain rfl:t=j:=by omega
   refine ⟨v,by rw [Array.getElem?_append_left (by simpa using hj)];simpa using h2, ?_⟩
   rcases h3 with ⟨p,rfl,hr⟩|⟨off,n,rfl,o,cap,e1,e2,e3,e4,e5,e6⟩
   · exact Rp.mono hkp hr
   · exact ⟨o,cap,cs,c,T,e1,e2,Wq,e3,e4,e5,hG.qI,e6⟩
 · exact fun x hx=>⟨Nat.zero_le _,p9⟩
 · exact fun x y hx hy _=>by rw [hlv x hx,hlv y hy]
 · intro j aK h
   obtain ⟨rfl,rfl⟩:=dF j aK h
   obtain ⟨us,h1,h2,h3⟩:=hG.pre
   exact ⟨⟨T,c,us,hG.qI,h1,aT.mono hkp h2,h3⟩,fun o h=>h.1 rfl⟩
 · intro t z h;simp [St.eI,aQ] at h
 · intro j i z h;simp [St.eI,aQ] at h
 · intro t q h;simp [St.eI,look] at h
theorem yf {p:PV} {v:Value} (h:eL p=true) (k:Rp w Pr p v) {w':World} {aC:aD}:Rp w' aC p v:=by
 unfold eL at h
 split at h
 · cases k with|an hr=>cases hr;exact .an .nil
 · obtain ⟨u,hu⟩:=Option.isSome_iff_exists.1 h
   exact sr hu k
theorem tJ (I:Inv base w Pr bk st a N):∀{l:List ResultVar} {ps:List PV},k9 st l=some ps→∃us,(l.mapM (gT a.tmps)).run P w= .ok us w∧(∀{w':World} {aC:aD},aT w' aC ps us)∧l.length=us.length
 |[],ps,h=>by simp only [k9,Option.some.injEq] at h;subst h;exact ⟨[],by simp, .nil,rfl⟩
 | .cell _ _::l,ps,h=>by simp [k9] at h
 | .tmp t::l,ps,h=>by
   simp only [k9] at h
   split at h
   · rename_i p hl
     split at h
     · rename_i oU
       simp only [Option.map_eq_some_iff] at h
       obtain ⟨qs,hq,rfl⟩:=h
       obtain ⟨us,h1,h2,h3⟩:=tJ I hq
       obtain ⟨v,hv,hr⟩:=I.slots t _ hl
       exact ⟨v::us,by simp [List.mapM_cons,gT,hv,h1], .cons (yf oU hr) h2,by simp [h3]⟩
     · simp at h
   · simp at h
theorem Kz {fn:Func} {r:MR} {cs':List PV} (I:Inv base w Pr bk st a N) (hcs:look st.bx gk=some cs') {c':Array Value} {T:TypeId} (hb:w.heap[bk (.bx gk)]? =some (.cells c' T (0,0))) {sz:Nat} (h:rT st sz fn.results.toList=some r):
  ∃v,(results fn a.tmps).run P w= .ok v w∧∀{w':World} {aC:aD},Lg w' aC (bk (.bx gk)) c'.size cs' sz r v:=by
 have Fj:∀{off n u},fZ st w bk gk off sz n u→BI (bk (.bx gk)) c'.size cs' off sz n u:=fun {off n u} h=>by
  obtain ⟨o,cap,aK,c2,T2,e1,e2,e3,e4,e5,e6,e7,e8⟩:=h
  rw [hcs] at e3;cases e3
  rw [hb] at e7;cases e7
  exact ⟨o,cap,e1,e2,e4,e5,e6,e8⟩
 unfold rT at h
 split at h
 · rename_i he
   simp only [Option.some.injEq] at h;subst h
   have:fn.results= #[]:=Array.ext' (by simpa using he)
   exact ⟨_,results_none this _ _ _, .an .nil⟩
 · rename_i t he
   have hrun:∀v,a.tmps[t]? =some v→(results fn a.tmps).run P w= .ok v w:=fun v hv=>by
    have:=lK (P:=P) (w:=w) (fn:=fn) (tmps:=a.tmps) (vs:=[v]) (by rw [he];simp [List.mapM_cons,gT,hv])
    simpa using this
   split at h
   · rename_i p hl
     split at h
     · rename_i oU
       simp only [Option.some.injEq] at h;subst h
       obtain ⟨v,hv,hr⟩:=I.slots t _ hl
       exact ⟨v,hrun v hv,yf oU hr⟩
     · simp at h
   · rename_i k off s n hl
     split at h
     · rename_i hk
       obtain ⟨rfl,rfl⟩:=hk
       simp only [Option.some.injEq] at h;subst h
       obtain ⟨v,hv,hr⟩:=I.slots t _ hl
       exact ⟨v,hrun v hv,Fj hr⟩
     · simp at h
   · simp at h
 · rename_i t l hne he
   split at h
   · rename_i k off s n hl
     split at h
     · rename_i hk
       obtain ⟨rfl,rfl⟩:=hk
       simp only [Option.map_eq_some_iff] at h
       obtain ⟨ps,hps,rfl⟩:=h
       obtain ⟨v,hv,hr⟩:=I.slots t _ hl
       obtain ⟨us,h1,h2,h3⟩:=tJ (P:=P) I hps
       have hlen:(v::us).length≠1:=by
        intro e
        have:l=[]:=by
         have:us.length=0:=by simpa using e
         exact List.length_eq_zero_iff.1 (by omega)
        exact hne this
       have:=lK (P:=P) (w:=w) (fn:=fn) (tmps:=a.tmps) (vs:=v::us) (by rw [he];simp [List.mapM_cons,gT,hv,h1])
       rw [dif_neg hlen] at this
       exact ⟨_,this,v,us,rfl,Fj hr,h2⟩
     · simp at h
   · simp at h
 · simp at h
end
theorem uZ {w:World} {Pr:aD} {b size:Nat} {mC:List PV} {js:Nat}:∀{ms:List MA} {vs:List Value} {cs:List PV},m6 w Pr b size mC js ms vs→cZ ms=some cs→jQ ms=js
 |_,_,_, .nil,h=>by simp [cZ] at h
 |_,_,_, .p _ hs,h=>by
  simp only [jQ]
  exact uZ hs (by simpa [cZ] using h)
 |_,_,_, .g _ _,h=>rfl
theorem HF {c:Code} {k:Nat} (h:(dstsOf c).all (fun d=>d !=k)=true):∀d∈dstsOf c,d≠k:=fun d hd=>by
 have:=List.all_eq_true.1 h d hd
 simpa using this
theorem uo {P:Program} {S:Cl} {it:Nat→List PV→Option (Nat×List (List PV))} (hC:aP P S) (hI:oG P it) (hm:P.follows .mixedOrders=true) {f:Nat} {fn:Func} (hf:P.funcs[f]? =some fn) (hok:ur fn=true) {note:Nat→eE} {k:Nat} {ms:List MA} {r:MR} {cs':List PV}
  (h:oJ P S it (fun g=>aR g k) note fn ms=some (r,cs')):dy P f ms r cs':=by
 simp only [oJ,Option.bind_eq_some_iff] at h
 obtain ⟨c,hc,h⟩:=h
 split at h
 · rename_i hfl
   simp only [Bool.and_eq_true] at hfl
   simp only [Option.bind_eq_some_iff] at h
   obtain ⟨⟨x,st'⟩,hrun,h⟩:=h
   simp only [ur,hc,Bool.and_eq_true,Bool.not_eq_true'] at hok
   refine ⟨⟨fn,c,hf,hc,hok.2⟩,fun cs sz vs w Pr b T c0 xN hp hG hma=>callsIn_wide.1 (callsIn_of_wp (F:=Fence.wide) (n:=2) hf hc trivial ?_ rfl)⟩
   have I0:=Dm xN hp hG hma (fn.ntmps - vs.toArray.size)
   have p9:b<w.heap.size:=(Array.getElem?_eq_some_iff.1 hG.qI).1
   refine iq (base:=0) (N:=vs.length+(fn.ntmps - vs.toArray.size)) hC hI hm note k c (dM (by simp;omega) hok.1) Fence.wide lV 2 w (guarded w b) ⟨fun j=>if j=gk then some b else none,some []⟩ (.inl hfl.1.1) (.inr rfl) (.inl hfl.1.2)
    (fun d hd=>if_neg (HF hfl.2 d hd)) (St.eI ms) _ w x st' ⟨guarded w b,_,I0,Below.refl _ _,fun _ _ _ h=>h,KO.refl _,fun j b' e=>by simp only at e;split at e<;>simp_all,fun _ _ _ h1 h2=>⟨h1,h2⟩,fun ds e=>by simpa using e⟩ hrun _ fun a' w' G=> ?_
   have fin:((rT st' (jQ ms) fn.results.toList).bind fun r=>(look st'.bx gk).bind fun cs'=>(cZ ms).bind fun cs=>if cs'.all bS=true∧cs'.length=cs.length then some (r,cs') else none)=some (r,cs')→
     a'.defers=[]∧∃v,(results fn a'.tmps).run P w'= .ok v w'∧∃v',Ending.returned v= .returned v'∧Lf w Pr w' b T c0 sz cs r cs' v':=fun h=>by
    simp only [Option.bind_eq_some_iff] at h
    obtain ⟨r1,kq,aZ,Ma,aK,Mb,h⟩:=h
    split at h
    · rename_i g9
      simp only [Option.some.injEq,Prod.mk.injEq] at h
      obtain ⟨rfl,rfl⟩:=h
      rw [xN] at Mb;cases Mb
      obtain ⟨PrF,bk,I,iO,hpF,gq,DC,hkc,hdf⟩:=G
      have hbk:bk (.bx gk)=b:=DC gk b (by simp)
      obtain ⟨⟨T2,c2,us,e1,e0,e2,e3⟩,e4⟩:=I.boxes gk aZ Ma
      obtain ⟨c3,e5,e6⟩:=gq.sized b c0 T _ hG.qI
      rw [hbk,e5] at e1;cases e1
      rw [uZ hma xN] at kq
      obtain ⟨v,cy,dY⟩:=Kz (P:=P) I Ma (by rw [hbk];exact e5) kq
      refine ⟨hdf [] rfl,v,cy,v,rfl,iO.os,iO.tape,iO.output,iO.size,fun j hj WL=> ?_,⟨_,⟨e5,⟨us,e0,nu g9.1 e2,e3⟩,hG.free⟩,e6⟩,g9.2, ?_⟩
      · cases ho:w.heap[j]? with
        |none=>rw [Array.getElem?_eq_getElem hj] at ho;simp at ho
        |some o=>
         cases QC:o.isCells with
         |false=>exact gq.same j o ho QC
         |true=>
          cases o with
          |cells c4 T4 fz=>
           obtain ⟨c5,e7,e8⟩:=gq.sized j c4 T4 fz ho
           rw [e7]
           congr 2
           apply Array.ext_getElem?
           intro i
           by_cases hi:i<c4.size
           · have h1:w.cell? ⟨j,i,none⟩=some c4[i]:=by
               simp [World.cell?,ho,hi]
             have h2:=(hkc j i _ ⟨WL,hj⟩ h1).2
             rw [Array.getElem?_eq_getElem hi,←h2]
             simp [World.cell?,e7]
           · rw [Array.getElem?_eq_none (by omega),Array.getElem?_eq_none (by omega)]
          |_=>simp [Obj.isCells] at QC
      · rw [←hbk,←e6];exact dY
    · simp at h
   cases x with
   |normal=>exact fin h
   |ret=>exact fin h
   |exit id=>simp at h
 · simp at h
structure qV (M:jG):Prop where
 o4:M.P.follows .mixedOrders=true
 sO:oG M.P M.iter
 fns:∀(f:Nat) (fn:Func),M.P.funcs[f]? =some fn→M.uw f=none→ur fn=true
 Jt:∀(f:Nat) (g:(Nat→List PV→Option RV)→List PV→Option RV),M.uw f=some g→∀call,(∀f args r,call f args=some r→aA M.P f args r)→∀args r,g call args=some r→aA M.P f args r
theorem aP.with {P:Program} {C:Cl} (h:aP P C) (ex:Nat→Nat→Bool) (im:Nat→Bool):aP P { C with ex:=ex,im:=im}:=⟨h.fn,h.mu⟩
theorem Et {M:jG} (hM:qV M):∀n,aP M.P (acl M n)
 |0=>⟨fun f args r h=>by simp [acl] at h,fun f ms r cs' h=>by simp [acl] at h⟩
 |n+1=>by
  have ih:=Et hM n
  refine ⟨fun f args r h=> ?_,fun f ms r cs' h=> ?_⟩
  · simp only [acl] at h
    split at h
    · rename_i g hg
      exact hM.Jt f g hg _ ih.fn args r h
    · rename_i hg
      rw [Option.bind_eq_some_iff] at h
      obtain ⟨fn,hfn,h⟩:=h
      exact y6 (ih.with _ _) hM.sO hM.o4 hfn (hM.fns f fn hfn hg) h
  · simp only [acl] at h
    split at h
    · simp at h
    · rename_i hg
      rw [Option.bind_eq_some_iff] at h
      obtain ⟨fn,hfn,h⟩:=h
      exact uo (ih.with _ _) hM.sO hM.o4 hfn (hM.fns f fn hfn hg) h
theorem Hr {M:jG} (hM:qV M) (n f:Nat) (args:List PV) (r:RV) (h:IY M n f args=some r):aA M.P f args r:=(Et hM n).fn f args r h
end Go.Proofs.YtibbgjafjhcemaaDoor.Cul
namespace Go.Proofs.YtibbgjafjhcemaaDoor.Cul
open Go Go.RowKit
def cH:List Prop→Prop
 |[]=>True
 |p::l=>p∧cH l
theorem cH.app:∀{l m:List Prop},cH (l++m)→cH l∧cH m
 |[],_,h=>⟨trivial,h⟩
 |_::_,_,h=>⟨⟨h.1,(cH.app h.2).1⟩,(cH.app h.2).2⟩
inductive El where
 |c (b:Bool)
 |r (x:RV)
 |l (x:Xt) (s:St)
 |u (n:Nat)
 |v (d:Nat) (m:Made)
 |e (d:Nat) (p:PV)
 |i (d:Nat) (x:Int)
 |t (d n:Nat) (cs:List PV)
 |o (d off n:Nat)
 |f (cs:List PV)
 |g (b:Bool)
 |p (n:Nat) (cs:List PV)
 |w (d:Nat) (str:ByteArray)
 |a (d:Nat) (cs:List PV)
 |j (d i:Nat)
 |s (cs:List PV)
 |m (r:MR) (cs:List PV)
def OR:BinOp→Bool
 | .eql| .neq| .lss| .leq| .gtr| .geq=>true
 |_=>false
abbrev Ow (α:Type):=α×List El×List Prop
def ji (s:ByteArray) (n:Int):Option Int:=(if 0≤n then s[n.toNat]? else none).map fun b=>(b.toNat:Int)
abbrev Ld (P:Program) (t:TypeId) (cs:List PV) (o:Nat) (p:PV):Prop:=dZ P t cs o=some p
abbrev de (cs:List PV) (a n:Nat) (cs':List PV):Prop:=(cs.drop a).take n=cs'
abbrev ck (cs:List PV) (off:Nat) (new cs':List PV):Prop:=splice cs off new=cs'
abbrev aa (call:Cl) (f:Nat) (gp:List PV) (rv:RV):Prop:=call.fn f gp=some rv
abbrev cC (call:Cl) (f:Nat) (ms:List MA) (r:MR) (cs:List PV):Prop:=call.mu f ms=some (r,cs)
abbrev yX (P:Program) (call:Cl) (it:Nat→List PV→Option (Nat×List (List PV))) (k:Nat) (note:Nat→eE) (c:Code) (st:St) (x:Xt) (s1:St):Prop:=aR (cI P call it (fun g=>aR g k) note c) k st=some (x,s1)
abbrev fu (str:ByteArray) (n b:Int):Prop:=ji str n=some b
abbrev az (cs:List PV) (sz:Nat) (n:Int) (len:Nat) (cs':List PV):Prop:=(0≤n∧n<len)∧row cs sz n.toNat=cs'
abbrev aG (n:Int) (len i:Nat):Prop:=n=(i:Int)∧i<len
abbrev iE (z:List PV) (n:Nat) (cs:List PV):Prop:=bh z n=cs
abbrev Dc (P:Program) (t:TypeId) (str:ByteArray) (lo hi:Option Value) (s':ByteArray):Prop:=cQ P (Instr.sliceAt t (.string str) lo hi none)=some (.lit (.string s'))
abbrev kU (cs:List PV) (s':ByteArray):Prop:=(bytesOf cs).map (fun l=>ByteArray.mk l.toArray)=some s'
abbrev gA (n1 n2:Nat) (c1 c2:List PV) (bytes s m:Nat) (cs':List PV):Prop:=(n1+n2=m∧c1++c2=cs')∧(m* bytes≤room∧m≤room)∧c2.length=n2* s∧c1.length=n1* s
abbrev iJ (P:Program) (op:BinOp) (t:TypeId) (x y:Operand) (a b':Value) (b:Bool):Prop:=cQ P (do eqGuard op t x y a b';binOp op t a b')=some (.lit (.bool b))
def zg (op:BinOp) (a b:Value):Option (Value×List Prop):=
 match op,a,b with
 | .shl, .int k x, .int _ y=>some (.int k (k.wrap (x* 2^min y.toNat k.bits)),[decide (y<0)=false])
 | .shr, .int k x, .int _ y=>some (.int k (x.fdiv (2^min y.toNat k.bits)),[decide (y<0)=false])
 | .quo, .int k x, .int k' y=>if k=k' then some (.int k (k.wrap (x.tdiv y)),[decide (y=0)=false]) else none
 | .rem, .int k x, .int k' y=>if k=k' then some (.int k (x.tmod y),[decide (y=0)=false]) else none
 |_,_,_=>none
def Ah (P:Program) (t:TypeId):Bool:=match P.underlying t with|some .string=>true|_=>false
theorem FL {P:Program} {t:TypeId} (h:Ah P t=true):P.underlying t=some .string:=by
 unfold Ah at h;split at h<;>first|assumption|cases h
def o7 (P:Program) (call:Cl) (o:Oper) (st:St) (s:List El):Option (Ow Made):=
 match o.op with
 | .binOp op t x y _=>if OR op then match s with
  | .c b::s'=>(st.val x).bind fun a=>(st.val y).bind fun b'=>match cQ P (do eqGuard op t x y a b';binOp op t a b') with
    |some (.lit (.bool c))=>some ({ v:= .pv (.lit (.bool b))},s',[c=b])
    |_=>none
  | .g b::s'=>(st.val x).bind fun a=>(st.val y).bind fun b'=>some ({ v:= .pv (.lit (.bool b))},s',[iJ P op t x y a b' b])
  |_=>none else match (st.val x).bind fun a=>(st.val y).bind fun b=>zg op a b with
  |some (v,ob)=>some ({ v:= .pv (.lit v)},s,ob)
  |none=>(quiet P call o st).map fun m=>(m,s,[])
 | .index t x i=>match s,st.pv x with
   | .i d b::s',some (.lit (.string str))=>if o.dst=some d∧Ah P t=true then ((st.pv i).bind cz).map fun n=>({ v:= .pv (.lit (.int .u8 b))},s',[fu str n b]) else none
   | .e d p::s',some (.ag cs)=>if o.dst=some d then match P.underlying t with
     |some (.array len e)=>((st.pv i).bind cz).bind fun n=>(bV P e).bind fun z=>some ({ v:= .pv p},s',[0≤n∧n<len,Ld P e cs (n.toNat* z) p])
     |_=>none else (quiet P call o st).map fun m=>(m,s,[])
   |_,_=>(quiet P call o st).map fun m=>(m,s,[])
 | .indexAddr t x i=>((st.pv i).bind cz).bind fun n=>match P.underlying t with
   |some (.slice e)=>(bV P e).bind fun z=>match st.ev x with
    |some (.pv (.sl sz len cs))=>if sz=z then (match s with
     | .a d cs'::s'=>if o.dst=some d then some ({ v:= .pv (.el cs')},s',[az cs sz n len cs']) else none
     |_=>some ({ v:= .pv (.el (row cs sz n.toNat))},s,[0≤n∧n<len])) else none
    |some (.xr u)=>match look st.sl u with
     |some (.ex sz len cs)=>if sz=z then some ({ v:= .xe u (n.toNat* sz)},s,[0≤n∧n<len]) else none
     |_=>none
    |some (.bs k off sz len)=>if sz=z then (match s with
     | .j d i::s'=>if o.dst=some d then some ({ v:= .bp k (off+i* sz)},s',[aG n len i]) else none
     |_=>some ({ v:= .bp k (off+n.toNat* sz)},s,[0≤n∧n<len])) else none
    |_=>none
   |some (.array len e)=>match s,st.ev x with
    | .j d i::s',some (.bp k off)=>if o.dst=some d then (bV P e).bind fun z=>some ({ v:= .bp k (off+i* z)},s',[aG n len i]) else (quiet P call o st).map fun m=>(m,s,[])
    |_,_=>(quiet P call o st).map fun m=>(m,s,[])
   |_=>(quiet P call o st).map fun m=>(m,s,[])
 | .load t x=>match s with
   | .e d p::s'=>if o.dst=some d then match st.ev x with
     |some (.bp k o)=>(look st.bx k).map fun cs=>({ v:= .pv p,tg:=if !ep P t&&(aQ st.gr (.c k o)).isSome then some (.c k o) else none},s',[Ld P t cs o p])
     |some (.pv (.el cs))=>some ({ v:= .pv p},s',[Ld P t cs 0 p])
     |_=>none else (quiet P call o st).map fun m=>(m,s,[])
   |_=>(quiet P call o st).map fun m=>(m,s,[])
 | .slice t x lo hi mx=>match st.ev x with
   |some (.bs k off sz n)=>match P.underlying t,mx with
    |some (.slice e),none=>if bV P e=some sz then
     (match hi with|none=>some (n:Int)|some y=>(st.pv y).bind cz).bind fun h=>
     (match lo with|none=>some (0:Int)|some y=>(st.pv y).bind cz).bind fun l=>
     match s with
     | .o d off' n'::s'=>if o.dst=some d then some ({ v:= .bs k off' sz n'},s',[0≤l∧l≤h∧h≤n,off+l.toNat* sz=off',h.toNat - l.toNat=n']) else none
     |_=>some ({ v:= .bs k (off+l.toNat* sz) sz (h.toNat - l.toNat)},s,[0≤l∧l≤h∧h≤n]) else none
    |_,_=>none
   |some (.pv (.sl sz n cs))=>match P.underlying t,mx with
    |some (.slice e),none=>if bV P e=some sz then
     (match hi with|none=>some (n:Int)|some y=>(st.pv y).bind cz).bind fun h=>
     (match lo with|none=>some (0:Int)|some y=>(st.pv y).bind cz).bind fun l=>
     match s with
     | .t d n' cs'::s'=>if o.dst=some d then some ({ v:= .pv (.sl sz n' cs')},s',[0≤l∧l≤h∧h≤n,h.toNat - l.toNat=n',de cs (l.toNat* sz) ((h.toNat - l.toNat)* sz) cs']) else none
     |_=>some ({ v:= .pv (.sl sz (h.toNat - l.toNat) ((cs.drop (l.toNat* sz)).take ((h.toNat - l.toNat)* sz)))},s,[0≤l∧l≤h∧h≤n]) else none
    |_,_=>none
   |_=>(quiet P call o st).map fun m=>(m,s,[])
 | .call { callee:= .value g,args, .. }=>match s with
   | .r rv::s'=>match st.ev g with
     |some v=>(st.fj v).bind fun p=>match p with
      | .fn f caps=>(eH st args.toList).bind fun gp=>
        if cw v||args.toList.any (fun x=>((st.ev x).map cw).getD true) then (if eL rv.v then some ({ v:= .pv rv.v},s',[aa call f (gp++caps) rv]) else none)
        else some ({ v:= .pv rv.v,gr:=rv.gr},s',[aa call f (gp++caps) rv])
      |_=>none
     |none=>none
   |_=>none
 |_=>(quiet P call o st).map fun m=>(m,s,[])
def o5 (P:Program) (call:Cl) (o:Oper) (st:St) (s:List El):Option (Ow Made):=
 match s,o.dst,o.op with
 |_,_, .index .. =>o7 P call o st s
 | .i d x::s',some d',_=>if d=d' then (o7 P call o st s').bind fun r=>match r.1.v with
  | .pv (.lit (.int k y))=>some ({ r.1 with v:= .pv (.lit (.int k x))},r.2.1,(y=x)::r.2.2)
  |_=>none else o7 P call o st s
 |_,_,_=>o7 P call o st s
def rX (st:St):Option Operand→Option (Option Value)
 |none=>some none
 |some x=>(st.val x).map some
def AP (P:Program) (call:Cl) (o:Oper) (st:St) (s:List El):Option (Ow Made):=
 match s,o.dst,o.op with
 | .w d s'::r,some d', .slice t x lo hi none=>if d=d' then match st.ev x with
  |some (.pv (.lit (.string str)))=>(rX st lo).bind fun l=>(rX st hi).bind fun h=>some ({ v:= .pv (.lit (.string s'))},r,[Dc P t str l h s'])
  |_=>none else o5 P call o st s
 | .w d s'::r,some d', .convert src dst x=>if d=d' then match st.pv x,P.underlying src,P.underlying dst with
  |some (.sl 1 n cs),some (.slice e),some .string=>match P.underlying e with
   |some (.int .u8)=>some ({ v:= .pv (.lit (.string s'))},r,[kU cs s'])
   |_=>none
  |_,_,_=>none else o5 P call o st s
 |_,_,_=>o5 P call o st s
def o6 (P:Program) (call:Cl) (o:Oper) (st:St) (s:List El):Option (Ow Made):=
 match s,o.dst with
 | .v d m::s',some d'=>if d=d' then some (m,s',[quiet P call o st=some m]) else o5 P call o st s
 |_,_=>AP P call o st s
def oM (P:Program) (o:Oper) (st:St) (sc:List El):Option (Ow St):=
 match o.op with
 | .store t a x=>match st.ev a with
   |some (.xe u off)=>if o.dst=none then match look st.sl u,st.pv x with
    |some (.ex sz n cs),some p=>if some p.cells.length=bV P t∧gE p=false then some ({ st with sl:=(u, .ex sz n (splice cs off p.cells))::bL st.sl u},sc,[off+p.cells.length≤cs.length]) else none
    |_,_=>none else none
   |some (.bp k off)=>match sc with
    | .s cs'::eD=>if o.dst=none then match x,st.ev x,look st.bx k with
      | .tmp u,some (.pv p),some cs=>if some p.cells.length=bV P t∧gE p=false∧(aQ st.gr (.s u)).isNone=true then some ({ st with bx:=(k,cs')::bL st.bx k,gr:=st.gr.filter (fun x=>x.1.out k off p.cells.length),tg:=st.tg.map (mR k off p.cells.length)},eD,[off+p.cells.length≤cs.length,ck cs off p.cells cs']) else none
      | .const _,some (.pv p),some cs=>if some p.cells.length=bV P t∧gE p=false then some ({ st with bx:=(k,cs')::bL st.bx k,gr:=st.gr.filter (fun x=>x.1.out k off p.cells.length),tg:=st.tg.map (mR k off p.cells.length)},eD,[off+p.cells.length≤cs.length,ck cs off p.cells cs']) else none
      |_,_,_=>none else none
    |_=>(effect P o st).map fun m=>(m,sc,[])
   |_=>(effect P o st).map fun m=>(m,sc,[])
 | .makeSlice t l c=>match sc with
   | .c b::eD=>o.dst.bind fun d=>match P.underlying t,(st.pv l).bind cz,(st.pv c).bind cz with
     |some (.slice e),some n,some m=>(bV P e).bind fun s=>(jD P e).bind fun z=>
      if z.cells.length=s∧0<s then
       (match b,eD with
        |false, .f cs0::CC=>(st.dB d cs0 (.bs d 0 s n.toNat)).map fun s'=>(s',CC,[0≤n∧n≤m∧m* P.bytesOf e≤room∧m≤room,decide (n=0)=false,iE z.cells n.toNat cs0])
        |_,_=>(if b then some (st.made (some d) { v:= .pv (.sl s 0 []),gr:=some s}) else st.dB d (bh z.cells n.toNat) (.bs d 0 s n.toNat)).map fun s'=>(s',eD,[0≤n∧n≤m∧m* P.bytesOf e≤room∧m≤room,decide (n=0)=b])) else none
     |_,_,_=>none
   |_=>none
 | .call { callee:= .builtin .append,args,argTypes}=>o.dst.bind fun d=>match args.toList,argTypes.toList with
   |[x,y],[T,U]=>match P.underlying T,P.underlying U with
    |some (.slice e),some (.slice _)=>(bV P e).bind fun s=>(jD P e).bind fun z=>(st.pv x).bind fun p=>(qE p).bind fun v=>((st.pv y).bind qE).bind fun u=>
     if 0<s∧z.cells.length=s then
      match p with
      | .lit _=>match sc with
        | .c b::eD=>some (if b then st.put (some d) (.pv p) else st.made (some d) { v:= .pv (.sl s u.1 u.2),gr:=some s},eD,[(v.1+u.1)* P.bytesOf e≤room∧v.1+u.1≤room,u.2.length=u.1* s∧v.2.length=v.1* s,decide (u.1=0)=b])
        |_=>none
      |_=>match x with
       | .tmp t=>
         (if aQ st.gr (.s t)=some s then some (Pl.s t) else match st.tag t with|some q=>if aQ st.gr q=some s then some q else none|none=>none).map fun q=>
          match sc with
          | .p m cs'::eD=>(({ st with gr:=st.gr.filter (fun x=>x.1≠q),tg:=st.tg.map (fT q)}:St).made (some d) { v:= .pv (.sl s m cs'),gr:=some s},eD,[gA v.1 u.1 v.2 u.2 (P.bytesOf e) s m cs'])
          |_=>(({ st with gr:=st.gr.filter (fun x=>x.1≠q),tg:=st.tg.map (fT q)}:St).made (some d) { v:= .pv (.sl s (v.1+u.1) (v.2++u.2)),gr:=some s},sc,[(v.1+u.1)* P.bytesOf e≤room∧v.1+u.1≤room,u.2.length=u.1* s∧v.2.length=v.1* s])
       |_=>none
     else none
    |_,_=>none
   |_,_=>none
 |_=>(effect P o st).map fun m=>(m,sc,[])
def Aq (call:Cl) (o:Oper) (st:St) (f:Nat) (vs:List AV) (s:List El):Option (Ow St):=
 match s with
 | .m r cs::s'=>(fR vs).bind fun g=>(n4 st vs).bind fun ms=>if Nq r then some ((st.dh g.1 cs).put o.dst (xp g.1 g.2 r),s',[cC call f ms r cs]) else none
 |_=>none
def BU (call:Cl) (o:Oper) (st:St) (s:List El):Option (Ow St):=
 match s with
 | .r rv::s'=>match o.op with
   | .call { callee:= .value g,args, .. }=>match st.ev g with
     |some (.pv (.fn f caps))=>if args.toList.any (fun x=>((st.ev x).map cw).getD true) then none else
      (eH st args.toList).bind fun gp=>o.dst.bind fun d=>match rv.v,rv.gr with
       | .sl sz n cs,some z=>if z=sz then (st.dB d cs (.bs d 0 sz n)).map fun s2=>(s2,s',[aa call f (gp++caps) rv,cs.all bS=true]) else none
       |_,_=>none
     |_=>none
   |_=>none
 |_=>none
def Df (P:Program) (call:Cl) (o:Oper) (st:St) (s:List El):Option (Ow St):=
 match iL st o with
 |some (f,vs)=>if call.im f then Aq call o st f vs s else if call.ex f (o.dst.getD 0) then BU call o st s else if gO o.op then (o6 P call o st s).map fun x=>(st.made o.dst x.1,x.2) else oM P o st s
 |none=>if gO o.op then (o6 P call o st s).map fun x=>(st.made o.dst x.1,x.2) else oM P o st s
def pN (P:Program) (call:Cl) (ops:List Oper):List Oper→St→List El→Option (Ow St)
 |[],st,s=>some (st,s,[])
 |o::l,st,s=>(eA ops o st).bind fun
  |true=>(Df P call o st s).bind fun y=>(pN P call ops l y.1 y.2.1).map fun z=>(z.1,z.2.1,y.2.2++z.2.2)
  |false=>pN P call ops l (st.put o.dst fL) s
def wS (call:Cl) (o:Oper) (st:St) (s:List El):Option (Ow Made):=
 match s with
 | .r rv::s'=>match o.op with
   | .call { callee:= .value (.func f),args, .. }=>if args.toList.any (fun x=>((st.ev x).map cw).getD true) then none else
     (eH st args.toList).bind fun gp=>match rv.v,rv.gr with
      | .sl sz n cs,some z=>if z=sz then some ({ v:= .cr cs (some (sz,n))},s',[aa call f gp rv,cs.all bS=true]) else none
      |_,_=>none
   |_=>none
 |_=>none
def xm (P:Program) (call:Cl) (o:Oper) (st:St) (s:List El):Option (Ow Made):=
 if BV call o then wS call o st s else match o.op with
 | .assign _| .alloc _=>(fq P call o st).map fun m=>(m,s,[])
 |_=>(o6 P call o st s).bind fun x=>if jJ x.1.v then none else some ({ x.1 with gr:=none},x.2)
def oK (P:Program) (call:Cl) (ops:List Oper):List Oper→St→List El→Option (Ow St)
 |[],st,s=>some (st,s,[])
 |o::l,st,s=>(eA ops o st).bind fun
  |true=>(xm P call o st s).bind fun y=>(oK P call ops l (st.gS o.dst y.1) y.2.1).map fun z=>(z.1,z.2.1,y.2.2++z.2.2)
  |false=>oK P call ops l (st.gS o.dst { v:=fL}) s
def tX (P:Program) (call:Cl) (ops:List Oper) (draw:Bool) (st:St) (s:List El):Option (Ow St):=
 if draw then
  let n:=u7 call ops
  if ((ops.take n).all (pY st)&&zS call ops n&&(!(yS ops||yL ops)||mT (vP ops) ops.toArray))=true then (oK P call ops (ops.take n) st s).bind fun x=>(x.1.settle (ops.take n)).bind fun s'=>(pN P call ops (ops.drop n) s' x.2.1).map fun y=>(y.1,y.2.1,x.2.2++y.2.2) else none
 else pN P call ops ops st s
def fD (g:Bool) (st:St) (t:Nat) (sc:List El):Ow St:=
 match look st.sl t,sc with
 |some (.bs k off sz n), .f cs'::eD=>match look st.bx k with
  |some cs=>((st.cP t k).made (some t) { v:= .pv (.sl sz n cs'),gr:=wW g off sz},eD,[de cs off (n* sz) cs'])
  |none=>(st.fY g t,sc,[])
 |_,_=>(st.fY g t,sc,[])
def kI:List Nat→St→List El→Ow St
 |[],st,sc=>(st,sc,[])
 |t::l,st,sc=>((kI l (fD false st t sc).1 (fD false st t sc).2.1).1,(kI l (fD false st t sc).1 (fD false st t sc).2.1).2.1,(fD false st t sc).2.2++(kI l (fD false st t sc).1 (fD false st t sc).2.1).2.2)
theorem wu {g:Bool} {st:St} {t:Nat} {sc:List El} (h:cH (fD g st t sc).2.2):(fD g st t sc).1=st.fY g t:=by
 unfold fD at h ⊢
 split at h
 · rename_i k off sz n cs' eD h1
   split at h
   · rename_i cs h2
     have h3:=h.1
     simp only [St.fY,h1,h2]
     rw [h3]
   · rfl
 · rfl
theorem yx:∀{l:List Nat} {st:St} {sc:List El},cH (kI l st sc).2.2→(kI l st sc).1=l.foldl St.sI st
 |[],st,sc,_=>rfl
 |t::l,st,sc,h=>by
  have h':=h.app
  simp only [kI,List.foldl_cons]
  rw [yx h'.2,wu h'.1];rfl
def Le (cs:List PV):Prop:=cs.all bS=true
def pG (st:St) (t:Nat):St×List Prop:=
 match look st.sl t,aQ st.gr (.s t) with
 |some (.pv (.sl sz n cs)),some z=>
  if (decide (z=sz)&&(bL st.sl t).all (fun x=>sE x.2&&eV (gw t) x.2)&&st.bx.all (fun x=>x.2.all eL)&&(look st.bx (gw t)).isNone)=true then
   ({ sl:=(t, .bs (gw t) 0 sz n)::bL st.sl t,bx:=(gw t,cs)::st.bx,gr:=[],tg:=[]},[Le cs])
  else (st,[])
 |_,_=>(st,[])
def mP:List Nat→St→St×List Prop
 |[],st=>(st,[])
 |t::l,st=>((mP l (pG st t).1).1,(pG st t).2++(mP l (pG st t).1).2)
theorem He {st:St} {t:Nat} (h:cH (pG st t).2):(pG st t).1=st.qx t:=by
 unfold pG at h ⊢
 unfold St.qx
 split at h
 · rename_i sz n cs z h1 h2
   simp only [h1,h2]
   split at h
   · rename_i hc
     have hl:cs.all bS=true:=h.1
     simp only [hc,if_true]
     simp only [Bool.and_eq_true] at hc
     rw [if_pos (by simp only [Bool.and_eq_true];exact ⟨⟨⟨⟨hc.1.1.1,hl⟩,hc.1.1.2⟩,hc.1.2⟩,hc.2⟩)]
   · rename_i hc
     rw [if_neg hc,if_neg (fun e=>hc (by simp only [Bool.and_eq_true] at e ⊢;exact ⟨⟨⟨e.1.1.1.1,e.1.1.2⟩,e.1.2⟩,e.2⟩))]
 · rename_i hno
   split
   · rename_i sz n cs z h1 h2
     exact absurd h2 (fun e=>hno sz n cs z h1 e)
   · rfl
theorem Bd:∀{l:List Nat} {st:St},cH (mP l st).2→(mP l st).1=l.foldl St.qx st
 |[],st,_=>rfl
 |t::l,st,h=>by
  have h':=h.app
  simp only [mP,List.foldl_cons]
  rw [Bd h'.2,He h'.1]
def kE (n:eE) (st:St) (s:List El):Ow St:=((kI n.still (mP n.oE st).1 s).1,(kI n.still (mP n.oE st).1 s).2.1,(mP n.oE st).2++(kI n.still (mP n.oE st).1 s).2.2)
theorem AJ {n:eE} {st:St} {s:List El} (h:cH (kE n st s).2.2):(kE n st s).1=st.nK n:=by
 have h':=h.app
 unfold kE St.nK
 rw [yx h'.2,Bd h'.1]
def vv (f:St→List El→Option (Ow (Xt×St))):Nat→St→List El→Option (Ow (Xt×St))
 |0,_,_=>none
 |n+1,st,s=>(f st s).bind fun x=>match x.1.1 with
  | .normal=>(vv f n x.1.2 x.2.1).map fun y=>(y.1,y.2.1,x.2.2++y.2.2)
  |_=>some x
def m8 (fA body:St→List El→Option (Ow (Xt×St))) (cV:St) (ps:List Nat):List (List PV)→St→List El→Option (Ow (Xt×St))
 |[],cur,s=>some ((.normal,cV.after cur),s,[])
 |x::xs,cur,s=>(fA (mU ps x (cV.after cur)) s).bind fun y=>match y.1.1 with
  | .normal=>(body y.1.2 y.2.1).bind fun z=>match z.1.1 with
    | .normal=>(m8 fA body cV ps xs z.1.2 z.2.1).map fun t=>(t.1,t.2.1,y.2.2++(z.2.2++t.2.2))
    |e=>some ((e,cV.after z.1.2),z.2.1,y.2.2++z.2.2)
  |_=>none
def uE (P:Program) (call:Cl) (ops:Array Oper) (i:Nat) (st:St) (s:List El):Option (Ow St):=
 (ops[i]?).bind fun o=>(eA ops.toList o st).bind fun
  |true=>Df P call o st s
  |false=>some (st.put o.dst fL,s,[])
def uY {α β:Type} (f:α→List El→Option (Ow (List β))) (r:List α) (s:List El):Option (Ow (List β)):=
 r.foldr (fun i (k:List El→Option (Ow (List β))) s=>(f i s).bind fun y=>(k y.2.1).map fun z=>(y.1++z.1,z.2.1,y.2.2++z.2.2)) (fun s=>some ([],s,[])) s
def uD (P:Program) (call:Cl) (ops:Array Oper):Nat→Array Bool→St→List El→Option (Ow (List St))
 |0,listed,st,s=>if (Region.ready .any ops listed).isEmpty then some ([st],s,[]) else none
 |g+1,listed,st,s=>if (Region.ready .any ops listed).isEmpty then none else
   uY (fun i s=>(uE P call ops i st s).bind fun x=>(uD P call ops g (listed.setIfInBounds i true) x.1 x.2.1).map fun y=>(y.1,y.2.1,x.2.2++y.2.2)) (Region.ready .any ops listed) s
def oI (P:Program) (call:Cl) (ops:Array Oper):Nat→Array Bool→St→List El→Option (Ow (List St))
 |0,listed,st,s=>if (Region.ready .any ops listed).isEmpty then some ([st],s,[]) else none
 |g+1,listed,st,s=>if (Region.ready .any ops listed).isEmpty then none else match yR ops listed with
  |some i=>(uE P call ops i st s).bind fun x=>(oI P call ops g (listed.setIfInBounds i true) x.1 x.2.1).map fun y=>(y.1,y.2.1,x.2.2++y.2.2)
  |none=>uY (fun i s=>(uE P call ops i st s).bind fun x=>(oI P call ops g (listed.setIfInBounds i true) x.1 x.2.1).map fun y=>(y.1,y.2.1,x.2.2++y.2.2)) (Region.ready .any ops listed) s
def vG (ks:List Nat):List St→Option (St×List Prop)
 |[]=>none
 |s::l=>some (s.cc ks,l.map fun x=>x.cc ks=s.cc ks)
def dO (P:Program) (call:Cl) (it:Nat→List PV→Option (Nat×List (List PV))) (k:Nat) (note:Nat→eE):Code→St→List El→Option (Ow (Xt×St))
 | .skip,st,s=>some ((.normal,st),s,[])
 | .region id ops dr,st,s=>if dr&&(note id).perm then
     (if (note id).take then oI P call ops ops.size (Array.replicate ops.size false) (kE (note id) st s).1 (kE (note id) st s).2.1 else uD P call ops ops.size (Array.replicate ops.size false) (kE (note id) st s).1 (kE (note id) st s).2.1).bind fun x=>(vG (note id).keep x.1).map fun y=>((.normal,y.1),x.2.1,(kE (note id) st s).2.2++(x.2.2++y.2))
   else (tX P call ops.toList dr (kE (note id) st s).1 (kE (note id) st s).2.1).map fun x=>((.normal,x.1.cc (note id).keep),x.2.1,(kE (note id) st s).2.2++x.2.2)
 | .seq a b,st,s=>(dO P call it k note a st s).bind fun x=>match x.1.1 with
   | .normal=>(dO P call it k note b x.1.2 x.2.1).map fun y=>(y.1,y.2.1,x.2.2++y.2.2)
   |_=>some x
 | .cond c t e,st,s=>(st.val c).bind fun
   | .bool true=>dO P call it k note t st s
   | .bool false=>dO P call it k note e st s
   |_=>none
 | .block id c,st,s=>(dO P call it k note c st s).map fun x=>match x.1.1 with
   | .exit j=>if j=id then ((.normal,x.1.2),x.2) else x
   |_=>x
 | .loop c,st,s=>match s with
   | .l x s1::s'=>some ((x,s1),s',[yX P call it k note c st x s1])
   | .u n::s'=>(vv (dO P call it k note c) n st s').map fun x=>(x.1,x.2.1,(n≤k)::x.2.2)
   |_=>none
 | .rangeFunc g ps fA body,st,s=>(st.pv g).bind fun
   | .fn f caps=>(it f caps).bind fun x=>if x.1=ps.size∧(iR note fA&&iR note body&&(fV note fA&&fV note body))=true then
    m8 (dO P call it k note fA) (dO P call it k note body) (st.iC (ps.toList++(dstsOf fA++dstsOf body))) ps.toList x.2 (st.iC (ps.toList++(dstsOf fA++dstsOf body))) s else none
   |_=>none
 | .exit id,st,s=>some ((.exit id,st),s,[])
 | .ret,st,s=>some ((.ret,st),s,[])
 |_,_,_=>none
def HE (P:Program) (rs:List ResultVar) (st:St) (sc:List El):Option (RV×List Prop):=
 match sc,rs with
 |[],_=>(kX P st rs).map fun r=>(r,[])
 |[.f cs'],[.tmp t]=>match (fD true st t [.f cs']).2.1 with
  |[]=>(pP P (fD true st t [.f cs']).1 (.tmp t)).map fun r=>(r,(fD true st t [.f cs']).2.2)
  |_=>none
 |_,_=>none
def yZ (P:Program) (call:Cl) (it:Nat→List PV→Option (Nat×List (List PV))) (k:Nat) (note:Nat→eE) (fn:Func) (args:List PV) (s:List El):Option (RV×List Prop):=
 fn.body.bind fun c=>(dO P call it k note c (.enter args) s).bind fun x=>match x.1.1 with
   | .exit _=>none
   |_=>(HE P fn.results.toList x.1.2 x.2.1).map fun r=>(r.1,x.2.2++r.2)
def wM (P:Program) (call:Cl) (it:Nat→List PV→Option (Nat×List (List PV))) (k:Nat) (note:Nat→eE) (fn:Func) (ms:List MA) (s:List El):Option ((MR×List PV)×List Prop):=
 fn.body.bind fun c=>if flat c&&fV note c&&(dstsOf c).all (fun d=>d !=gk) then (dO P call it k note c (.eI ms) s).bind fun x=>match x.1.1,x.2.1 with
   | .exit _,_=>none
   |_,[]=>(rT x.1.2 (jQ ms) fn.results.toList).bind fun r=>(look x.1.2.bx gk).bind fun cs'=>(cZ ms).map fun cs=>((r,cs'),(cs'.all bS=true)::(cs'.length=cs.length)::x.2.2)
   |_,_=>none else none
section
variable {P:Program} {it:Nat→List PV→Option (Nat×List (List PV))} {call:Cl} {k:Nat} {note:Nat→eE}
theorem Ew {op:BinOp} {t:TypeId} {x y:Operand} {a b v:Value} {l:List Prop} (e:zg op a b=some (v,l)) (h:cH l):dL (cQ P (do eqGuard op t x y a b;binOp op t a b))=some { v:= .pv (.lit v)}:=by
 unfold zg at e
 split at e
 · simp only [Option.some.injEq,Prod.mk.injEq] at e
   obtain ⟨rfl,rfl⟩:=e
   have:=of_decide_eq_false h.1
   simp [dL,cQ,eqGuard,binOp,Op.shift,if_neg this,aB,hH,iA,Bind.bind,Sem.bind,pure,Pure.pure]
 · simp only [Option.some.injEq,Prod.mk.injEq] at e
   obtain ⟨rfl,rfl⟩:=e
   have:=of_decide_eq_false h.1
   simp [dL,cQ,eqGuard,binOp,Op.shift,if_neg this,aB,hH,iA,Bind.bind,Sem.bind,pure,Pure.pure]
 · split at e
   · rename_i hk
     subst hk
     simp only [Option.some.injEq,Prod.mk.injEq] at e
     obtain ⟨rfl,rfl⟩:=e
     have:=of_decide_eq_false h.1
     simp [dL,cQ,eqGuard,binOp,Op.intDiv,if_neg this,aB,hH,iA,Bind.bind,Sem.bind,pure,Pure.pure]
   · simp at e
 · split at e
   · rename_i hk
     subst hk
     simp only [Option.some.injEq,Prod.mk.injEq] at e
     obtain ⟨rfl,rfl⟩:=e
     have:=of_decide_eq_false h.1
     simp [dL,cQ,eqGuard,binOp,Op.intDiv,if_neg this,aB,hH,iA,Bind.bind,Sem.bind,pure,Pure.pure]
   · simp at e
 · simp at e
theorem BE {t:TypeId} {str:ByteArray} {k:IntKind} {n b:Int} (hu:P.underlying t=some .string) (h:ji str n=some b):cQ P (Instr.index t (.string str) (.int k n))=some (.lit (.int .u8 b)):=by
 unfold ji at h
 simp only [Option.map_eq_some_iff] at h
 obtain ⟨c,h1,rfl⟩:=h
 split at h1
 · rename_i h0
   simp [cQ,Instr.index,asIntOf,underlying,program,hu,h0,h1,aB,hH,iA,Bind.bind,Sem.bind,pure,Pure.pure]
 · simp at h1
theorem n7 {o:Oper} {st:St} {s s':List El} {m:Made} {l:List Prop} (e:o7 P call o st s=some (m,s',l)) (hl:cH l):quiet P call o st=some m:=by
 have dflt:∀{s:List El},((quiet P call o st).map fun m=>(m,s,([]:List Prop)))=some (m,s',l)→quiet P call o st=some m:=fun e=>by
  simp only [Option.map_eq_some_iff,Prod.mk.injEq] at e
  obtain ⟨q,hq,rfl,_,_⟩:=e
  exact hq
 unfold o7 at e
 split at e
 · rename_i op t x y p ho
   split at e
   · split at e
     · rename_i b s1
       simp only [Option.bind_eq_some_iff] at e
       obtain ⟨a,ha,b',hb,e⟩:=e
       split at e
       · rename_i c hc
         simp only [Option.some.injEq,Prod.mk.injEq] at e
         obtain ⟨rfl,rfl,rfl⟩:=e
         have:c=b:=hl.1
         subst this
         simp only [quiet,ho,ha,hb,Option.bind_some,hc,dL,Option.map_some]
       · simp at e
     · rename_i b s1
       simp only [Option.bind_eq_some_iff,Option.some.injEq,Prod.mk.injEq] at e
       obtain ⟨a,ha,b',hb,rfl,rfl,rfl⟩:=e
       have hc:=hl.1
       simp only [quiet,ho,ha,hb,Option.bind_some,dL]
       rw [hc];rfl
     · simp at e
   · split at e
     · rename_i v ob hv
       simp only [Option.some.injEq,Prod.mk.injEq] at e
       obtain ⟨rfl,rfl,rfl⟩:=e
       simp only [Option.bind_eq_some_iff] at hv
       obtain ⟨a,ha,b,hb,hv⟩:=hv
       simp only [quiet,ho,ha,hb,Option.bind_some]
       exact Ew hv hl
     · exact dflt e
 · rename_i t x i ho
   split at e
   · rename_i d b s1 str hp
     split at e
     · rename_i hc
       simp only [Option.map_eq_some_iff,Prod.mk.injEq] at e
       obtain ⟨n,hn,rfl,rfl,rfl⟩:=e
       have hu:=FL hc.2
       simp only [quiet,ho,hp]
       obtain ⟨k,hk⟩:∃k,st.pv i=some (.lit (.int k n)):=by
        simp only [Option.bind_eq_some_iff] at hn
        obtain ⟨q,h1,h2⟩:=hn
        unfold cz at h2
        split at h2
        · simp only [Option.some.injEq] at h2;subst h2;exact ⟨_,h1⟩
        · simp at h2
       simp only [St.val,hp,hk,hu,Option.bind_some,valOf,BE hu hl.1,dL,Option.map_some]
     · simp at e
   · rename_i d p s1 cs hp
     split at e
     · split at e
       · rename_i len el hu
         simp only [Option.bind_eq_some_iff,Option.some.injEq,Prod.mk.injEq] at e
         obtain ⟨n,⟨q,hq,hn⟩,z,hz,rfl,rfl,rfl⟩:=e
         simp only [quiet,ho,hp,hu]
         simp only [hq,Option.bind_some,hn,hz]
         rw [if_pos hl.1,hl.2.1];rfl
       · simp at e
     · exact dflt e
   · exact dflt e
 · rename_i t x i ho
   simp only [Option.bind_eq_some_iff] at e
   obtain ⟨n,hn,e⟩:=e
   split at e
   · rename_i el hu
     simp only [Option.bind_eq_some_iff] at e
     obtain ⟨z,hz,e⟩:=e
     split at e
     · rename_i sz len cs hx
       split at e
       · rename_i hs
         split at e
         · split at e
           · simp only [Option.some.injEq,Prod.mk.injEq] at e
             obtain ⟨rfl,rfl,rfl⟩:=e
             simp only [quiet,ho,Option.bind_eq_some_iff]
             refine ⟨n,hn, ?_⟩
             simp only [hu,Option.bind_eq_some_iff]
             refine ⟨z,hz, ?_⟩
             simp only [hx]
             rw [if_pos ⟨hs,hl.1.1.1,hl.1.1.2⟩,hl.1.2]
           · simp at e
         · simp only [Option.some.injEq,Prod.mk.injEq] at e
           obtain ⟨rfl,rfl,rfl⟩:=e
           simp only [quiet,ho,Option.bind_eq_some_iff]
           refine ⟨n,hn, ?_⟩
           simp only [hu,Option.bind_eq_some_iff]
           refine ⟨z,hz, ?_⟩
           simp only [hx]
           rw [if_pos ⟨hs,hl.1.1,hl.1.2⟩]
       · simp at e
     · rename_i u hx
       split at e
       · rename_i sz len cs Ft
         split at e
         · rename_i hs
           simp only [Option.some.injEq,Prod.mk.injEq] at e
           obtain ⟨rfl,rfl,rfl⟩:=e
           simp only [quiet,ho,Option.bind_eq_some_iff]
           refine ⟨n,hn, ?_⟩
           simp only [hu,Option.bind_eq_some_iff]
           refine ⟨z,hz, ?_⟩
           simp only [hx,Ft]
           rw [if_pos ⟨hs,hl.1.1,hl.1.2⟩]
         · simp at e
       · simp at e
     · rename_i k off sz len hx
       split at e
       · rename_i hs
         split at e
         · split at e
           · simp only [Option.some.injEq,Prod.mk.injEq] at e
             obtain ⟨rfl,rfl,rfl⟩:=e
             have h1:=hl.1.1
             have h2:=hl.1.2
             subst h1
             simp only [quiet,ho,Option.bind_eq_some_iff]
             refine ⟨_,hn, ?_⟩
             simp only [hu,Option.bind_eq_some_iff]
             refine ⟨z,hz, ?_⟩
             simp only [hx]
             rw [if_pos ⟨hs,by omega,by omega⟩,Int.toNat_natCast]
           · simp at e
         · simp only [Option.some.injEq,Prod.mk.injEq] at e
           obtain ⟨rfl,rfl,rfl⟩:=e
           simp only [quiet,ho,Option.bind_eq_some_iff]
           refine ⟨n,hn, ?_⟩
           simp only [hu,Option.bind_eq_some_iff]
           refine ⟨z,hz, ?_⟩
           simp only [hx]
           rw [if_pos ⟨hs,hl.1.1,hl.1.2⟩]
       · simp at e
     · simp at e
   · rename_i len el hu
     split at e
     · rename_i d i' s1 k off hx
       split at e
       · simp only [Option.bind_eq_some_iff,Option.some.injEq,Prod.mk.injEq] at e
         obtain ⟨z,hz,rfl,rfl,rfl⟩:=e
         have h1:=hl.1.1
         have h2:=hl.1.2
         subst h1
         simp only [quiet,ho,Option.bind_eq_some_iff]
         refine ⟨_,hn, ?_⟩
         simp only [hu,Option.bind_eq_some_iff]
         refine ⟨z,hz, ?_⟩
         simp only [hx]
         rw [if_pos ⟨by omega,by omega⟩,Int.toNat_natCast]
       · exact dflt e
     · exact dflt e
   · exact dflt e
 · rename_i t x ho
   split at e
   · rename_i d p s1
     split at e
     · split at e
       · rename_i k o' hx
         simp only [Option.map_eq_some_iff,Prod.mk.injEq] at e
         obtain ⟨cs,hk,rfl,rfl,rfl⟩:=e
         simp only [quiet,ho,hx,Option.bind_eq_some_iff]
         refine ⟨cs,hk, ?_⟩
         rw [hl.1];rfl
       · rename_i cs hx
         simp only [Option.some.injEq,Prod.mk.injEq] at e
         obtain ⟨rfl,rfl,rfl⟩:=e
         simp only [quiet,ho,hx]
         rw [hl.1];rfl
       · simp at e
     · exact dflt e
   · exact dflt e
 · rename_i t x lo hi mx ho
   split at e
   · rename_i k off sz n hx
     split at e
     · rename_i Vt qM el hu
       split at e
       · rename_i hs
         simp only [Option.bind_eq_some_iff] at e
         obtain ⟨h,hh,lw,Fu,e⟩:=e
         split at e
         · split at e
           · simp only [Option.some.injEq,Prod.mk.injEq] at e
             obtain ⟨rfl,rfl,rfl⟩:=e
             obtain ⟨h1,h2,h3,_⟩:=hl
             simp only [quiet,ho,hx,hu]
             rw [if_pos hs]
             simp only [Option.bind_eq_some_iff]
             refine ⟨h,hh,lw,Fu, ?_⟩
             rw [if_pos h1,h2,h3]
           · simp at e
         · simp only [Option.some.injEq,Prod.mk.injEq] at e
           obtain ⟨rfl,rfl,rfl⟩:=e
           simp only [quiet,ho,hx,hu]
           rw [if_pos hs]
           simp only [Option.bind_eq_some_iff]
           refine ⟨h,hh,lw,Fu, ?_⟩
           rw [if_pos hl.1]
       · simp at e
     · simp at e
   · rename_i sz n cs hx
     split at e
     · rename_i Vt qM el hu
       split at e
       · rename_i hs
         simp only [Option.bind_eq_some_iff] at e
         obtain ⟨h,hh,lw,Fu,e⟩:=e
         split at e
         · split at e
           · simp only [Option.some.injEq,Prod.mk.injEq] at e
             obtain ⟨rfl,rfl,rfl⟩:=e
             obtain ⟨h1,h2,h3,_⟩:=hl
             simp only [quiet,ho,hx,hu]
             rw [if_pos hs]
             simp only [Option.bind_eq_some_iff]
             refine ⟨h,hh,lw,Fu, ?_⟩
             rw [if_pos h1,←h2,←h3]
           · simp at e
         · simp only [Option.some.injEq,Prod.mk.injEq] at e
           obtain ⟨rfl,rfl,rfl⟩:=e
           simp only [quiet,ho,hx,hu]
           rw [if_pos hs]
           simp only [Option.bind_eq_some_iff]
           refine ⟨h,hh,lw,Fu, ?_⟩
           rw [if_pos hl.1]
       · simp at e
     · simp at e
   · exact dflt e
 · rename_i g args ts ho
   split at e
   · rename_i rv s1
     split at e
     · rename_i v hv
       simp only [Option.bind_eq_some_iff] at e
       obtain ⟨p,hp,e⟩:=e
       split at e
       · rename_i f caps
         simp only [Option.bind_eq_some_iff] at e
         obtain ⟨gp,has,e⟩:=e
         split at e
         · rename_i hout
           split at e
           · rename_i oU
             simp only [Option.some.injEq,Prod.mk.injEq] at e
             obtain ⟨rfl,rfl,rfl⟩:=e
             simp only [quiet,ho,hv,Option.bind_eq_some_iff]
             refine ⟨.fn f caps,hp, ?_⟩
             simp only [Option.bind_eq_some_iff]
             refine ⟨gp,has, ?_⟩
             simp only [sG,hl.1,Option.bind_some]
             rw [if_pos hout,if_pos oU]
           · simp at e
         · rename_i hout
           simp only [Option.some.injEq,Prod.mk.injEq] at e
           obtain ⟨rfl,rfl,rfl⟩:=e
           simp only [quiet,ho,hv,Option.bind_eq_some_iff]
           refine ⟨.fn f caps,hp, ?_⟩
           simp only [Option.bind_eq_some_iff]
           refine ⟨gp,has, ?_⟩
           simp only [sG,hl.1,Option.bind_some]
           rw [if_neg hout]
       · simp at e
     · simp at e
   · simp at e
 · exact dflt e
theorem n6 {o:Oper} {st:St} {s s':List El} {m:Made} {l:List Prop} (e:o5 P call o st s=some (m,s',l)) (hl:cH l):quiet P call o st=some m:=by
 unfold o5 at e
 split at e
 · exact n7 e hl
 · split at e
   · simp only [Option.bind_eq_some_iff] at e
     obtain ⟨⟨m0,s0,l0⟩,h0,e⟩:=e
     split at e
     · rename_i k y hv
       simp only [Option.some.injEq,Prod.mk.injEq] at e
       obtain ⟨rfl,rfl,rfl⟩:=e
       obtain ⟨h1,h2⟩:=hl
       have:=n7 h0 h2
       rw [this]
       simp only at hv
       subst h1
       cases m0
       simp only at hv
       subst hv
       rfl
     · simp at e
   · exact n7 e hl
 · exact n7 e hl
theorem Gg {o:Oper} {st:St} {s s':List El} {m:Made} {l:List Prop} (e:AP P call o st s=some (m,s',l)) (hl:cH l):quiet P call o st=some m:=by
 unfold AP at e
 split at e
 · rename_i d str' r d' t x lo hi hd ho
   split at e
   · split at e
     · rename_i str hx
       simp only [Option.bind_eq_some_iff,Option.some.injEq,Prod.mk.injEq] at e
       obtain ⟨lv,hlv,hv,xO,rfl,rfl,rfl⟩:=e
       have h1:=hl.1
       simp only [quiet,ho,hx,valOf,Option.bind_some]
       cases lo with
       |none=>
        simp only [rX,Option.some.injEq] at hlv
        subst hlv
        cases hi with
        |none=>simp only [rX,Option.some.injEq] at xO;subst xO;simp only [dL];rw [h1];rfl
        |some y=>
         simp only [rX,Option.map_eq_some_iff] at xO
         obtain ⟨w,hw,rfl⟩:=xO
         simp only [hw,Option.bind_some,dL];rw [h1];rfl
       |some z=>
        simp only [rX,Option.map_eq_some_iff] at hlv
        obtain ⟨w2,B4,rfl⟩:=hlv
        cases hi with
        |none=>simp only [rX,Option.some.injEq] at xO;subst xO;simp only [B4,Option.bind_some,dL];rw [h1];rfl
        |some y=>
         simp only [rX,Option.map_eq_some_iff] at xO
         obtain ⟨w,hw,rfl⟩:=xO
         simp only [hw,B4,Option.bind_some,dL];rw [h1];rfl
     · simp at e
   · exact n6 e hl
 · rename_i d str' r d' src dst x hd ho
   split at e
   · split at e
     · rename_i n cs el hx hs kj
       split at e
       · rename_i hu
         simp only [Option.some.injEq,Prod.mk.injEq] at e
         obtain ⟨rfl,rfl,rfl⟩:=e
         have h1:=hl.1
         simp only [Option.map_eq_some_iff] at h1
         obtain ⟨bs,ki,rfl⟩:=h1
         simp only [quiet,ho,hx,hs,kj,hu,ki,Option.map_some]
       · simp at e
     · simp at e
   · exact n6 e hl
 · exact n6 e hl
theorem yg {o:Oper} {st:St} {s s':List El} {m:Made} {l:List Prop} (e:o6 P call o st s=some (m,s',l)) (hl:cH l):quiet P call o st=some m:=by
 unfold o6 at e
 split at e
 · split at e
   · simp only [Option.some.injEq,Prod.mk.injEq] at e
     obtain ⟨rfl,rfl,rfl⟩:=e
     exact hl.1
   · exact n6 e hl
 · exact Gg e hl
theorem Dl {o:Oper} {st s:St} {sc eD:List El} {l:List Prop} (e:oM P o st sc=some (s,eD,l)) (hl:cH l):effect P o st=some s:=by
 have dflt:((effect P o st).map fun m=>(m,sc,([]:List Prop)))=some (s,eD,l)→effect P o st=some s:=fun e=>by
  simp only [Option.map_eq_some_iff,Prod.mk.injEq] at e
  obtain ⟨q,hq,rfl,_,_⟩:=e
  exact hq
 unfold oM at e
 split at e
 · rename_i t a x ho
   split at e
   · rename_i u off ha
     split at e
     · rename_i hd
       split at e
       · rename_i sz n cs p hu hp
         split at e
         · rename_i hc
           simp only [Option.some.injEq,Prod.mk.injEq] at e
           obtain ⟨rfl,rfl,rfl⟩:=e
           simp only [effect,ho,if_pos hd,ha,hu,hp]
           rw [if_pos ⟨hc.1,hc.2,hl.1⟩]
         · simp at e
       · simp at e
     · simp at e
   · rename_i k off ha
     split at e
     · rename_i cs' vW
       split at e
       · rename_i hd
         split at e
         · rename_i u p cs hk hp
           split at e
           · rename_i hc
             simp only [Option.some.injEq,Prod.mk.injEq] at e
             obtain ⟨rfl,rfl,rfl⟩:=e
             obtain ⟨h1,h2,_⟩:=hl
             have fI:st.iY k off p.cells=some { st with bx:=(k,cs')::bL st.bx k,gr:=st.gr.filter (fun x=>x.1.out k off p.cells.length),tg:=st.tg.map (mR k off p.cells.length)}:=by
              simp only [St.iY,hk,Option.bind_some]
              rw [if_pos h1,h2]
             simp only [effect,ho,if_pos hd,ha,hp]
             rw [if_pos ⟨hc.1,hc.2.1⟩,fI]
             simp only [Option.map_some,Option.some.injEq]
             have hno:aQ (st.gr.filter (fun x=>x.1.out k off p.cells.length)) (.s u)=none:=by
              rw [rQ]
              simp only [Pl.out,if_true]
              simpa using hc.2.2
             rw [hno]
           · simp at e
         · rename_i v p cs hk hp
           split at e
           · rename_i hc
             simp only [Option.some.injEq,Prod.mk.injEq] at e
             obtain ⟨rfl,rfl,rfl⟩:=e
             obtain ⟨h1,h2,_⟩:=hl
             simp only [effect,ho,if_pos hd,ha,hp]
             rw [if_pos ⟨hc.1,hc.2⟩]
             simp only [St.iY,hk,Option.bind_some]
             rw [if_pos h1,h2]
           · simp at e
         · simp at e
       · simp at e
     · exact dflt e
   · exact dflt e
 · rename_i t ln c ho
   split at e
   · rename_i b vW
     rw [Option.bind_eq_some_iff] at e
     obtain ⟨d,hd,e⟩:=e
     split at e
     · rename_i el n m hu hn hm
       rw [Option.bind_eq_some_iff] at e
       obtain ⟨sz,hsz,e⟩:=e
       rw [Option.bind_eq_some_iff] at e
       obtain ⟨z,hz,e⟩:=e
       split at e
       · rename_i hc
         split at e
         · simp only [Option.map_eq_some_iff,Prod.mk.injEq] at e
           obtain ⟨s2,kr,rfl,rfl,rfl⟩:=e
           obtain ⟨⟨h1,h2,h3,h4⟩,h5,h6,_⟩:=hl
           simp only [effect,ho,hd,Option.bind_some,hu,hn,hm,hsz,hz]
           rw [if_pos ⟨h1,h2,h3,h4,hc⟩]
           rw [if_neg (by simpa using h5),h6];exact kr
         · simp only [Option.map_eq_some_iff,Prod.mk.injEq] at e
           obtain ⟨s2,kr,rfl,rfl,rfl⟩:=e
           obtain ⟨⟨h1,h2,h3,h4⟩,h5,_⟩:=hl
           simp only [effect,ho,hd,Option.bind_some,hu,hn,hm,hsz,hz]
           rw [if_pos ⟨h1,h2,h3,h4,hc⟩]
           cases b with
           |true=>rw [if_pos (by simpa using h5)];exact kr
           |false=>rw [if_neg (by simpa using h5)];exact kr
       · simp at e
     · simp at e
   · simp at e
 · rename_i args ts ho
   rw [Option.bind_eq_some_iff] at e
   obtain ⟨d,hd,e⟩:=e
   split at e
   · rename_i x y T U ha hts
     split at e
     · rename_i el el' hT hU
       simp only [Option.bind_eq_some_iff] at e
       obtain ⟨sz,hsz,z,hz,p,hp,v,hv,u,⟨p2,Jd,hu⟩,e⟩:=e
       split at e
       · rename_i hc
         simp only [effect,ho,hd,Option.bind_some,ha,hts,hT,hU,hsz,hz,hp,hv,Jd,hu]
         split at e
         · rename_i v0
           split at e
           · rename_i b vW
             simp only [Option.some.injEq,Prod.mk.injEq] at e
             obtain ⟨rfl,rfl,rfl⟩:=e
             obtain ⟨⟨h1,h2⟩,⟨h3,h4⟩,h5,_⟩:=hl
             rw [if_pos ⟨h1,h2,hc.1,hc.2,h3,h4⟩]
             cases b with
             |true=>rw [if_pos (by simpa using h5)];rfl
             |false=>rw [if_neg (by simpa using h5)];rfl
           · simp at e
         · rename_i hnl
           split at e
           · rename_i t
             simp only [Option.map_eq_some_iff] at e
             obtain ⟨q,hq,e⟩:=e
             split at e
             · simp only [Prod.mk.injEq] at e
               obtain ⟨rfl,rfl,rfl⟩:=e
               obtain ⟨⟨⟨h5,h6⟩,⟨h1,h2⟩,h3,h4⟩,_⟩:=hl
               rw [←h5] at h1 h2
               rw [if_pos ⟨h1,h2,hc.1,hc.2,h3,h4⟩]
               cases p with
               |lit v0=>exact absurd rfl (hnl v0)
               |_=>
                exact Option.map_eq_some_iff.2 ⟨q,hq,by rw [h5,h6]⟩
             · simp only [Prod.mk.injEq] at e
               obtain ⟨rfl,rfl,rfl⟩:=e
               obtain ⟨⟨h1,h2⟩,⟨h3,h4⟩,_⟩:=hl
               rw [if_pos ⟨h1,h2,hc.1,hc.2,h3,h4⟩]
               cases p with
               |lit v0=>exact absurd rfl (hnl v0)
               |_=>
                exact Option.map_eq_some_iff.2 ⟨q,hq,rfl⟩
           · simp at e
       · simp at e
     · simp at e
   · simp at e
 · exact dflt e
theorem BK {o:Oper} {st s:St} {sc eD:List El} {l:List Prop} (e:Df P call o st sc=some (s,eD,l)) (hl:cH l):iK P call o st=some s:=by
 have plain:(if gO o.op=true then (o6 P call o st sc).map fun x=>(st.made o.dst x.1,x.2) else oM P o st sc)=some (s,eD,l)→(if gO o.op=true then (quiet P call o st).map (st.made o.dst) else effect P o st)=some s:=fun e=>by
  split at e
  · rename_i hq
    rw [if_pos hq]
    simp only [Option.map_eq_some_iff,Prod.mk.injEq] at e ⊢
    obtain ⟨⟨m,vW,l'⟩,hm,rfl,h2⟩:=e
    simp only [Prod.mk.injEq] at h2
    obtain ⟨rfl,rfl⟩:=h2
    exact ⟨m,yg hm hl,rfl⟩
  · rename_i hq
    rw [if_neg hq]
    exact Dl e hl
 unfold Df at e
 unfold iK
 split at e
 · rename_i f vs hc
   rw [hc]
   simp only
   split at e
   · rename_i Fm
     rw [if_pos Fm]
     unfold Aq at e
     split at e
     · rename_i r cs s1
       simp only [Option.bind_eq_some_iff] at e
       obtain ⟨g,hg,ms,Mu,e⟩:=e
       split at e
       · rename_i hok
         simp only [Option.some.injEq,Prod.mk.injEq] at e
         obtain ⟨rfl,rfl,rfl⟩:=e
         simp only [sS,hg,Mu,Option.bind_some,hl.1]
         rw [if_pos hok]
       · simp at e
     · simp at e
   · rename_i Fm
     rw [if_neg Fm]
     split at e
     · rename_i hex
       rw [if_pos hex]
       unfold BU at e
       unfold uV
       split at e
       · rename_i rv s1
         split at e
         · rename_i g args ts ho
           simp only [ho]
           split at e
           · rename_i f' caps hg
             simp only [hg]
             split at e
             · simp at e
             · rename_i zN
               rw [if_neg zN]
               simp only [Option.bind_eq_some_iff] at e ⊢
               obtain ⟨gp,has,d,hd,e⟩:=e
               refine ⟨gp,has,rv, ?_⟩
               split at e
               · rename_i sz n cs z hv hz
                 split at e
                 · rename_i hzs
                   simp only [Option.map_eq_some_iff,Prod.mk.injEq] at e
                   obtain ⟨s2,kr,rfl,rfl,rfl⟩:=e
                   obtain ⟨h1,h2,_⟩:=hl
                   refine ⟨h1,d,hd, ?_⟩
                   rw [hv,hz]
                   simp only
                   rw [if_pos ⟨hzs,h2⟩]
                   exact kr
                 · simp at e
               · simp at e
           · simp at e
         · simp at e
       · simp at e
     · rename_i hex
       rw [if_neg hex]
       exact plain e
 · rename_i hc
   rw [hc]
   exact plain e
theorem pO {ops:List Oper}:∀(l:List Oper) (st s:St) (sc eD:List El) (ob:List Prop),pN P call ops l st sc=some (s,eD,ob)→cH ob→og (iK P call) ops l st=some s
 |[],st,s,sc,eD,ob,e,h=>by simp only [pN,Option.some.injEq,Prod.mk.injEq] at e;simp [og,e.1]
 |o::l,st,s,sc,eD,ob,e,h=>by
  simp only [pN,Option.bind_eq_some_iff] at e
  obtain ⟨b,hw,e⟩:=e
  simp only [og,Option.bind_eq_some_iff]
  cases b with
  |true=>
   simp only [Option.bind_eq_some_iff,Option.map_eq_some_iff,Prod.mk.injEq] at e
   obtain ⟨⟨s1,vW,l1⟩,ha,⟨s2,CC,l2⟩,hr,rfl,rfl,rfl⟩:=e
   obtain ⟨h2,h3⟩:=h.app
   exact ⟨true,hw,by simp only [Option.bind_eq_some_iff];exact ⟨s1,BK ha h2,pO l _ _ _ _ _ hr h3⟩⟩
  |false=>exact ⟨false,hw,pO l _ _ _ _ _ e h⟩
theorem Dr {o:Oper} {st:St} {s s':List El} {m:Made} {l:List Prop} (e:wS call o st s=some (m,s',l)) (hl:cH l):oO call o st=some m:=by
 unfold wS at e
 unfold oO
 split at e
 · rename_i rv s1
   split at e
   · rename_i f args ts ho
     split at e
     · simp at e
     · rename_i zN
       simp only [ho]
       rw [if_neg zN]
       simp only [Option.bind_eq_some_iff] at e ⊢
       obtain ⟨gp,has,e⟩:=e
       split at e
       · rename_i sz n cs z hv hz
         split at e
         · rename_i hzs
           simp only [Option.some.injEq,Prod.mk.injEq] at e
           obtain ⟨rfl,rfl,rfl⟩:=e
           obtain ⟨h1,h2,_⟩:=hl
           refine ⟨gp,has,rv,h1, ?_⟩
           rw [hv,hz]
           simp only
           rw [if_pos ⟨hzs,h2⟩]
         · simp at e
       · simp at e
   · simp at e
 · simp at e
theorem DV {o:Oper} {st:St} {s s':List El} {m:Made} {l:List Prop} (e:xm P call o st s=some (m,s',l)) (hl:cH l):fq P call o st=some m:=by
 unfold xm at e
 split at e
 · rename_i hx
   unfold fq
   rw [if_pos hx]
   exact Dr e hl
 rename_i MY
 split at e
 · simp only [Option.map_eq_some_iff,Prod.mk.injEq] at e
   obtain ⟨q,hq,rfl,_,_⟩:=e
   exact hq
 · simp only [Option.map_eq_some_iff,Prod.mk.injEq] at e
   obtain ⟨q,hq,rfl,_,_⟩:=e
   exact hq
 · rename_i xP hn2
   simp only [Option.bind_eq_some_iff] at e
   obtain ⟨⟨m0,s0,l0⟩,hm,e⟩:=e
   split at e
   · simp at e
   · rename_i hx
     simp only [Option.some.injEq,Prod.mk.injEq] at e
     obtain ⟨rfl,rfl,rfl⟩:=e
     have:=yg hm hl
     unfold fq
     rw [if_neg MY]
     split
     · rename_i ho;exact absurd ho (xP _)
     · rename_i ho;exact absurd ho (hn2 _)
     · simp only [Option.bind_eq_some_iff]
       exact ⟨m0,this,by rw [if_neg hx]⟩
theorem q7 {ops:List Oper}:∀(l:List Oper) (st s:St) (sc eD:List El) (ob:List Prop),oK P call ops l st sc=some (s,eD,ob)→cH ob→j7 P call ops l st=some s
 |[],st,s,sc,eD,ob,e,h=>by simp only [oK,Option.some.injEq,Prod.mk.injEq] at e;simp [j7,e.1]
 |o::l,st,s,sc,eD,ob,e,h=>by
  simp only [oK,Option.bind_eq_some_iff] at e
  obtain ⟨b,hw,e⟩:=e
  simp only [j7,Option.bind_eq_some_iff]
  cases b with
  |true=>
   simp only [Option.bind_eq_some_iff,Option.map_eq_some_iff,Prod.mk.injEq] at e
   obtain ⟨⟨s1,vW,l1⟩,ha,⟨s2,CC,l2⟩,hr,rfl,rfl,rfl⟩:=e
   obtain ⟨h2,h3⟩:=h.app
   exact ⟨true,hw,by simp only [Option.bind_eq_some_iff];exact ⟨s1,DV ha h2,q7 l _ _ _ _ _ hr h3⟩⟩
  |false=>exact ⟨false,hw,q7 l _ _ _ _ _ e h⟩
theorem Bk {ops:List Oper} {dr:Bool} {st s:St} {sc eD:List El} {ob:List Prop} (e:tX P call ops dr st sc=some (s,eD,ob)) (h:cH ob):kV P call ops dr st=some s:=by
 unfold tX at e
 unfold kV
 cases dr with
 |false=>simp only [Bool.false_eq_true,if_false] at e ⊢;exact pO _ _ _ _ _ _ e h
 |true=>
  simp only [if_true] at e ⊢
  split at e
  · rename_i hf
    rw [if_pos hf]
    simp only [Option.bind_eq_some_iff,Option.map_eq_some_iff,Prod.mk.injEq] at e ⊢
    obtain ⟨⟨s1,vW,l1⟩,h1,s2,h2,⟨s3,sc3,l3⟩,h3,rfl,rfl,rfl⟩:=e
    obtain ⟨k1,k3⟩:=h.app
    exact ⟨s1,q7 _ _ _ _ _ _ h1 k1,s2,h2,pO _ _ _ _ _ _ h3 k3⟩
  · simp at e
theorem Al {f:St→Option (Xt×St)} {g:St→List El→Option (Ow (Xt×St))} (hf:∀st s x s' ob,g st s=some (x,s',ob)→cH ob→f st=some x):
  ∀(n k:Nat) (st:St) (s:List El) (x:Xt×St) (s':List El) (ob:List Prop),n≤k→vv g n st s=some (x,s',ob)→cH ob→aR f k st=some x
 |0,k,st,s,x,s',ob,hk,e,h=>by simp [vv] at e
 |n+1,0,st,s,x,s',ob,hk,e,h=>by omega
 |n+1,k+1,st,s,x,s',ob,hk,e,h=>by
  simp only [vv,Option.bind_eq_some_iff] at e
  obtain ⟨⟨⟨y,cV⟩,s1,l1⟩,h1,e⟩:=e
  simp only [aR,Option.bind_eq_some_iff]
  cases y with
  |normal=>
   simp only [Option.map_eq_some_iff,Prod.mk.injEq] at e
   obtain ⟨⟨x2,s2,l2⟩,h2,rfl,rfl,rfl⟩:=e
   obtain ⟨k1,k2⟩:=h.app
   exact ⟨(.normal,cV),hf _ _ _ _ _ h1 k1,Al hf n k _ _ _ _ _ (by omega) h2 k2⟩
  |exit id=>
   simp only [Option.some.injEq,Prod.mk.injEq] at e
   obtain ⟨rfl,rfl,rfl⟩:=e
   exact ⟨(.exit id,cV),hf _ _ _ _ _ h1 h,rfl⟩
  |ret=>
   simp only [Option.some.injEq,Prod.mk.injEq] at e
   obtain ⟨rfl,rfl,rfl⟩:=e
   exact ⟨(.ret,cV),hf _ _ _ _ _ h1 h,rfl⟩
theorem tq {fa fb:St→Option (Xt×St)} {ga gb:St→List El→Option (Ow (Xt×St))} (ha:∀st s x s' ob,ga st s=some (x,s',ob)→cH ob→fa st=some x) (hb:∀st s x s' ob,gb st s=some (x,s',ob)→cH ob→fb st=some x) {cV:St} {ps:List Nat}:
  ∀(xs:List (List PV)) (cur:St) (s:List El) (x:Xt×St) (s':List El) (ob:List Prop),m8 ga gb cV ps xs cur s=some (x,s',ob)→cH ob→fP fa fb cV ps xs cur=some x
 |[],cur,s,x,s',ob,e,h=>by simp only [m8,Option.some.injEq,Prod.mk.injEq] at e;simp [fP,e.1]
 |y::xs,cur,s,x,s',ob,e,h=>by
  simp only [m8,Option.bind_eq_some_iff] at e
  obtain ⟨⟨⟨t,sa⟩,s1,l1⟩,h1,e⟩:=e
  simp only [fP,Option.bind_eq_some_iff]
  cases t with
  |exit id=>simp at e
  |ret=>simp at e
  |normal=>
   simp only [Option.bind_eq_some_iff] at e
   obtain ⟨⟨⟨t2,sb⟩,s2,l2⟩,h2,e⟩:=e
   cases t2 with
   |normal=>
    simp only [Option.map_eq_some_iff,Prod.mk.injEq] at e
    obtain ⟨⟨x3,s3,l3⟩,h3,rfl,rfl,rfl⟩:=e
    obtain ⟨k1,Xv⟩:=h.app
    obtain ⟨k2,k3⟩:=Xv.app
    refine ⟨(.normal,sa),ha _ _ _ _ _ h1 k1, ?_⟩
    simp only [Option.bind_eq_some_iff]
    exact ⟨(.normal,sb),hb _ _ _ _ _ h2 k2,tq ha hb xs _ _ _ _ _ h3 k3⟩
   |exit id=>
    simp only [Option.some.injEq,Prod.mk.injEq] at e
    obtain ⟨rfl,rfl,rfl⟩:=e
    obtain ⟨k1,k2⟩:=h.app
    refine ⟨(.normal,sa),ha _ _ _ _ _ h1 k1, ?_⟩
    simp only [Option.bind_eq_some_iff]
    exact ⟨(.exit id,sb),hb _ _ _ _ _ h2 k2,rfl⟩
   |ret=>
    simp only [Option.some.injEq,Prod.mk.injEq] at e
    obtain ⟨rfl,rfl,rfl⟩:=e
    obtain ⟨k1,k2⟩:=h.app
    refine ⟨(.normal,sa),ha _ _ _ _ _ h1 k1, ?_⟩
    simp only [Option.bind_eq_some_iff]
    exact ⟨(.ret,sb),hb _ _ _ _ _ h2 k2,rfl⟩
theorem tV {ops:Array Oper} {i:Nat} {st s:St} {sc eD:List El} {ob:List Prop} (e:uE P call ops i st sc=some (s,eD,ob)) (h:cH ob):qZ (iK P call) ops i st=some s:=by
 simp only [uE,Option.bind_eq_some_iff] at e
 obtain ⟨o,ho,b,hb,e⟩:=e
 simp only [qZ,Option.bind_eq_some_iff]
 refine ⟨o,ho,b,hb, ?_⟩
 cases b with
 |true=>exact BK e h
 |false=>
  simp only [Option.some.injEq,Prod.mk.injEq] at e
  simp only [e.1]
theorem ue {α β:Type} {f:α→List El→Option (Ow (List β))} {g:α→Option (List β)} (hf:∀i s l s' ob,f i s=some (l,s',ob)→cH ob→g i=some l):∀(r:List α) (s:List El) (ls:List β) (s':List El) (ob:List Prop),uY f r s=some (ls,s',ob)→cH ob→r.foldr (fun i acc=>(g i).bind fun l=>acc.map (l++ ·)) (some [])=some ls
 |[],s,ls,s',ob,e,h=>by
  simp only [uY,List.foldr_nil,Option.some.injEq,Prod.mk.injEq] at e
  simp [e.1]
 |i::r,s,ls,s',ob,e,h=>by
  simp only [uY,List.foldr_cons,Option.bind_eq_some_iff,Option.map_eq_some_iff,Prod.mk.injEq] at e
  obtain ⟨⟨l1,s1,o1⟩,h1,⟨l2,s2,o2⟩,h2,rfl,rfl,rfl⟩:=e
  obtain ⟨k1,k2⟩:=h.app
  simp only [List.foldr_cons,Option.bind_eq_some_iff,Option.map_eq_some_iff]
  exact ⟨l1,hf _ _ _ _ _ h1 k1,l2,ue hf r s1 l2 s2 o2 h2 k2,rfl⟩
theorem yY {ops:Array Oper}:∀(g:Nat) (listed:Array Bool) (st:St) (sc:List El) (ls:List St) (eD:List El) (ob:List Prop),uD P call ops g listed st sc=some (ls,eD,ob)→cH ob→pM (iK P call) ops g listed st=some ls
 |0,listed,st,sc,ls,eD,ob,e,h=>by
  simp only [uD] at e
  split at e
  · rename_i he
    simp only [Option.some.injEq,Prod.mk.injEq] at e
    simp only [pM]
    rw [if_pos he,e.1]
  · simp at e
 |g+1,listed,st,sc,ls,eD,ob,e,h=>by
  simp only [uD] at e
  split at e
  · simp at e
  · rename_i he
    simp only [pM]
    rw [if_neg he]
    refine ue (fun i s l s' ob e h=> ?_) _ _ _ _ _ e h
    simp only [Option.bind_eq_some_iff,Option.map_eq_some_iff,Prod.mk.injEq] at e
    obtain ⟨⟨s1,vW,o1⟩,h1,⟨l2,CC,o2⟩,h2,rfl,rfl,rfl⟩:=e
    obtain ⟨k1,k2⟩:=h.app
    simp only [Option.bind_eq_some_iff]
    exact ⟨s1,tV h1 k1,yY g _ _ _ _ _ _ h2 k2⟩
theorem qY {ops:Array Oper}:∀(g:Nat) (listed:Array Bool) (st:St) (sc:List El) (ls:List St) (eD:List El) (ob:List Prop),oI P call ops g listed st sc=some (ls,eD,ob)→cH ob→lF (iK P call) ops g listed st=some ls
 |0,listed,st,sc,ls,eD,ob,e,h=>by
  simp only [oI] at e
  split at e
  · rename_i he
    simp only [Option.some.injEq,Prod.mk.injEq] at e
    simp only [lF]
    rw [if_pos he,e.1]
  · simp at e
 |g+1,listed,st,sc,ls,eD,ob,e,h=>by
  simp only [oI] at e
  split at e
  · simp at e
  · rename_i he
    simp only [lF]
    rw [if_neg he]
    split at e
    · rename_i i hi
      rw [hi]
      simp only [Option.bind_eq_some_iff,Option.map_eq_some_iff,Prod.mk.injEq] at e
      obtain ⟨⟨s1,vW,o1⟩,h1,⟨l2,CC,o2⟩,h2,rfl,rfl,rfl⟩:=e
      obtain ⟨k1,k2⟩:=h.app
      simp only [Option.bind_eq_some_iff]
      exact ⟨s1,tV h1 k1,qY g _ _ _ _ _ _ h2 k2⟩
    · rename_i hi
      rw [hi]
      refine ue (fun i s l s' ob e h=> ?_) _ _ _ _ _ e h
      simp only [Option.bind_eq_some_iff,Option.map_eq_some_iff,Prod.mk.injEq] at e
      obtain ⟨⟨s1,vW,o1⟩,h1,⟨l2,CC,o2⟩,h2,rfl,rfl,rfl⟩:=e
      obtain ⟨k1,k2⟩:=h.app
      simp only [Option.bind_eq_some_iff]
      exact ⟨s1,tV h1 k1,qY g _ _ _ _ _ _ h2 k2⟩
theorem yb {ks:List Nat} {ls:List St} {s:St} {ob:List Prop} (e:vG ks ls=some (s,ob)) (h:cH ob):oneOf ks ls=some s:=by
 cases ls with
 |nil=>simp [vG] at e
 |cons y l=>
  simp only [vG,Option.some.injEq,Prod.mk.injEq] at e
  obtain ⟨rfl,rfl⟩:=e
  simp only [oneOf]
  refine if_pos ?_
  intro x hx
  revert h x
  induction l with
  |nil=>intro h x hx;simp at hx
  |cons z l ih=>
   intro h x hx
   simp only [List.map_cons] at h
   rcases List.mem_cons.1 hx with rfl|hx
   · exact h.1
   · exact ih h.2 x hx
theorem cY:∀(c:Code) (st:St) (p:List El) (x:Xt×St) (p':List El) (ob:List Prop),dO P call it k note c st p=some (x,p',ob)→cH ob→cI P call it (fun g=>aR g k) note c st=some x
 | .skip,st,p,x,p',ob,e,h=>by simp only [dO,Option.some.injEq,Prod.mk.injEq] at e;simp [cI,e.1]
 | .region id ops dr,st,p,x,p',ob,e,h=>by
   simp only [dO] at e
   split at e
   · rename_i hp
     simp only [Option.map_eq_some_iff,Option.bind_eq_some_iff,Prod.mk.injEq] at e
     obtain ⟨⟨ls,p1,l⟩,hs,⟨s,obs⟩,h1,rfl,h2,rfl⟩:=e
     obtain ⟨k1,k2⟩:=h.app
     obtain ⟨k3,k4⟩:=k2.app
     simp only [cI]
     rw [if_pos hp,←AJ k1]
     split at hs
     · rename_i xQ
       rw [if_pos xQ,qY _ _ _ _ _ _ _ hs k3,Option.bind_some,yb h1 k4];rfl
     · rename_i xQ
       rw [if_neg xQ,yY _ _ _ _ _ _ _ hs k3,Option.bind_some,yb h1 k4];rfl
   rename_i hp
   simp only [Option.map_eq_some_iff,Prod.mk.injEq] at e
   obtain ⟨⟨s,p1,l⟩,hs,rfl,h2⟩:=e
   obtain ⟨rfl,rfl⟩:=h2
   obtain ⟨k1,k2⟩:=h.app
   simp only [cI]
   rw [if_neg hp,←AJ k1,Bk hs k2];rfl
 | .seq a b,st,p,x,p',ob,e,h=>by
   simp only [dO,Option.bind_eq_some_iff] at e
   obtain ⟨⟨⟨y,s⟩,p1,l1⟩,h1,e⟩:=e
   simp only [cI,Option.bind_eq_some_iff]
   cases y with
   |normal=>
    simp only [Option.map_eq_some_iff,Prod.mk.injEq] at e
    obtain ⟨⟨x2,p2,l2⟩,h2,rfl,rfl,rfl⟩:=e
    obtain ⟨k1,k2⟩:=h.app
    exact ⟨(.normal,s),cY a _ _ _ _ _ h1 k1,cY b _ _ _ _ _ h2 k2⟩
   |exit id=>
    simp only [Option.some.injEq,Prod.mk.injEq] at e
    obtain ⟨rfl,rfl,rfl⟩:=e
    exact ⟨(.exit id,s),cY a _ _ _ _ _ h1 h,rfl⟩
   |ret=>
    simp only [Option.some.injEq,Prod.mk.injEq] at e
    obtain ⟨rfl,rfl,rfl⟩:=e
    exact ⟨(.ret,s),cY a _ _ _ _ _ h1 h,rfl⟩
 | .cond c t el,st,p,x,p',ob,e,h=>by
   simp only [dO,Option.bind_eq_some_iff] at e
   obtain ⟨v,hv,e⟩:=e
   simp only [cI,Option.bind_eq_some_iff]
   refine ⟨v,hv, ?_⟩
   split at e
   · exact cY t _ _ _ _ _ e h
   · exact cY el _ _ _ _ _ e h
   · simp at e
 | .block id c,st,p,x,p',ob,e,h=>by
   simp only [dO,Option.map_eq_some_iff] at e
   obtain ⟨⟨⟨y,s⟩,p1,l1⟩,h1,e⟩:=e
   simp only [cI,Option.map_eq_some_iff]
   cases y with
   |normal=>
    simp only [Prod.mk.injEq] at e
    obtain ⟨rfl,rfl,rfl⟩:=e
    exact ⟨_,cY c _ _ _ _ _ h1 h,rfl⟩
   |ret=>
    simp only [Prod.mk.injEq] at e
    obtain ⟨rfl,rfl,rfl⟩:=e
    exact ⟨_,cY c _ _ _ _ _ h1 h,rfl⟩
   |exit j=>
    simp only at e
    split at e
    · rename_i hj
      simp only [Prod.mk.injEq] at e
      obtain ⟨rfl,rfl,rfl⟩:=e
      exact ⟨_,cY c _ _ _ _ _ h1 h,by simp only;rw [if_pos hj]⟩
    · rename_i hj
      simp only [Prod.mk.injEq] at e
      obtain ⟨rfl,rfl,rfl⟩:=e
      exact ⟨_,cY c _ _ _ _ _ h1 h,by simp only;rw [if_neg hj]⟩
 | .loop c,st,p,x,p',ob,e,h=>by
   simp only [dO] at e
   split at e
   · simp only [Option.some.injEq,Prod.mk.injEq] at e
     obtain ⟨rfl,rfl,rfl⟩:=e
     exact h.1
   · rename_i n s1
     simp only [Option.map_eq_some_iff,Prod.mk.injEq] at e
     obtain ⟨⟨x2,s2,l2⟩,h2,rfl,rfl,rfl⟩:=e
     exact Al (f:=cI P call it (fun g=>aR g k) note c) (fun st s x s' ob e h=>cY c st s x s' ob e h) n k _ _ _ _ _ h.1 h2 h.2
   · simp at e
 | .rangeFunc g ps fA body,st,p,x,p',ob,e,h=>by
   simp only [dO,Option.bind_eq_some_iff] at e
   obtain ⟨q,hq,e⟩:=e
   simp only [cI,Option.bind_eq_some_iff]
   refine ⟨q,hq, ?_⟩
   split at e
   · simp only [Option.bind_eq_some_iff] at e ⊢
     obtain ⟨y,hy,e⟩:=e
     refine ⟨y,hy, ?_⟩
     split at e
     · rename_i hn
       rw [if_pos hn]
       exact tq (fun st s x s' ob e h=>cY fA st s x s' ob e h) (fun st s x s' ob e h=>cY body st s x s' ob e h) _ _ _ _ _ _ e h
     · simp at e
   · simp at e
 | .exit id,st,p,x,p',ob,e,h=>by simp only [dO,Option.some.injEq,Prod.mk.injEq] at e;simp [cI,e.1]
 | .ret,st,p,x,p',ob,e,h=>by simp only [dO,Option.some.injEq,Prod.mk.injEq] at e;simp [cI,e.1]
 | .label _,_,_,_,_,_,e,_=>by simp [dO] at e
 | .goto _,_,_,_,_,_,e,_=>by simp [dO] at e
 | .scope _,_,_,_,_,_,e,_=>by simp [dO] at e
theorem De {fn:Func} {ms:List MA} {p:List El} {r:MR×List PV} {ob:List Prop} (e:wM P call it k note fn ms p=some (r,ob)) (h:cH ob):oJ P call it (fun g=>aR g k) note fn ms=some r:=by
 simp only [wM,Option.bind_eq_some_iff] at e
 obtain ⟨c,hc,e⟩:=e
 simp only [oJ,Option.bind_eq_some_iff]
 refine ⟨c,hc, ?_⟩
 split at e
 · rename_i hfl
   rw [if_pos hfl]
   simp only [Option.bind_eq_some_iff] at e ⊢
   obtain ⟨⟨⟨y,s⟩,p1,l1⟩,h1,e⟩:=e
   have fin:((rT s (jQ ms) fn.results.toList).bind fun r=>(look s.bx gk).bind fun cs'=>(cZ ms).map fun cs=>((r,cs'),(cs'.all bS=true)::(cs'.length=cs.length)::l1))=some (r,ob)→
     cH l1∧((rT s (jQ ms) fn.results.toList).bind fun r=>(look s.bx gk).bind fun cs'=>(cZ ms).bind fun cs=>if cs'.all bS=true∧cs'.length=cs.length then some (r,cs') else none)=some r:=fun e=>by
    simp only [Option.bind_eq_some_iff,Option.map_eq_some_iff,Prod.mk.injEq] at e
    obtain ⟨r1,hr,cs',RX,cs,hcs,rfl,rfl⟩:=e
    obtain ⟨a1,a2,a3⟩:=h
    refine ⟨a3, ?_⟩
    simp only [hr,RX,hcs,Option.bind_some]
    rw [if_pos ⟨a1,a2⟩]
   refine ⟨(y,s), ?_, ?_⟩
   · refine cY c _ _ _ _ _ h1 ?_
     cases y<;>cases p1<;>simp only [reduceCtorEq] at e
     all_goals (exact (fin e).1)
   · cases y<;>cases p1<;>simp only [reduceCtorEq] at e
     all_goals (exact (fin e).2)
 · simp at e
theorem BS {rs:List ResultVar} {st:St} {sc:List El} {r:RV} {ob:List Prop} (e:HE P rs st sc=some (r,ob)) (h:cH ob):kX P st rs=some r:=by
 unfold HE at e
 split at e
 · simp only [Option.map_eq_some_iff,Prod.mk.injEq] at e
   obtain ⟨_,h1,rfl,_⟩:=e
   exact h1
 · rename_i cs' t
   split at e
   · simp only [Option.map_eq_some_iff,Prod.mk.injEq] at e
     obtain ⟨_,h1,rfl,rfl⟩:=e
     rw [wu h] at h1
     exact h1
   · simp at e
 · simp at e
theorem Er {fn:Func} {args:List PV} {p:List El} {r:RV} {ob:List Prop} (e:yZ P call it k note fn args p=some (r,ob)) (h:cH ob):uF P call it (fun g=>aR g k) note fn args=some r:=by
 simp only [yZ,Option.bind_eq_some_iff] at e
 obtain ⟨c,hc,⟨⟨y,s⟩,p1,l1⟩,h1,e⟩:=e
 simp only [uF,Option.bind_eq_some_iff]
 refine ⟨c,hc,(y,s), ?_⟩
 cases y with
 |exit j=>simp at e
 |normal=>
  simp only [Option.map_eq_some_iff,Prod.mk.injEq] at e
  obtain ⟨⟨r',l2⟩,h2,rfl,rfl⟩:=e
  exact ⟨cY c _ _ _ _ _ h1 h.app.1,BS h2 h.app.2⟩
 |ret=>
  simp only [Option.map_eq_some_iff,Prod.mk.injEq] at e
  obtain ⟨⟨r',l2⟩,h2,rfl,rfl⟩:=e
  exact ⟨cY c _ _ _ _ _ h1 h.app.1,BS h2 h.app.2⟩
end
end Go.Proofs.YtibbgjafjhcemaaDoor.Cul
namespace Go.Proofs.YtibbgjafjhcemaaDoor.Cul
open Go Go.RowKit
def G9:List (Nat×(List PV→Option RV))→Nat→List PV→Option RV
 |[],_,_=>none
 |(f,g)::l,x,args=>if f=x then g args else G9 l x args
def Bc:List (Nat×(List MA→Option (MR×List PV)))→Nat→List MA→Option (MR×List PV)
 |[],_,_=>none
 |(f,g)::l,x,ms=>if f=x then g ms else Bc l x ms
def oD (l:List (Nat×(List PV→Option RV))) (ml:List (Nat×(List MA→Option (MR×List PV)))) (ex:List (Nat×Nat)):Cl:={ fn:=G9 l,mu:=Bc ml,ex:=fun f d=>ex.contains (f,d),im:=fun f=>(ml.map (·.1)).contains f}
abbrev bQ (l:List (Nat×(List PV→Option RV))):Cl:=oD l [] []
def uB (P:Program) (l:List (Nat×(List PV→Option RV))):Prop:=∀f args r,G9 l f args=some r→aA P f args r
def yH (P:Program) (l:List (Nat×(List MA→Option (MR×List PV)))):Prop:=∀f ms r cs',Bc l f ms=some (r,cs')→dy P f ms r cs'
theorem aL {P:Program}:uB P []:=fun f args r h=>by simp [G9] at h
theorem au {P:Program} {f:Nat} {g:List PV→Option RV} {l:List (Nat×(List PV→Option RV))} (h:∀args r,g args=some r→aA P f args r) (hl:uB P l):uB P ((f,g)::l):=by
 intro x args r e
 simp only [G9] at e
 split at e
 · rename_i hf;exact hf ▸h args r e
 · exact hl x args r e
theorem jf {P:Program}:yH P []:=fun f ms r cs' h=>by simp [Bc] at h
theorem gm {P:Program} {f:Nat} {g:List MA→Option (MR×List PV)} {l:List (Nat×(List MA→Option (MR×List PV)))} (h:∀ms r cs',g ms=some (r,cs')→dy P f ms r cs') (hl:yH P l):yH P ((f,g)::l):=by
 intro x ms r cs' e
 simp only [Bc] at e
 split at e
 · rename_i hf;exact hf ▸h ms r cs' e
 · exact hl x ms r cs' e
theorem j3 {P:Program} {l:List (Nat×(List PV→Option RV))} {ml:List (Nat×(List MA→Option (MR×List PV)))} {ex:List (Nat×Nat)} (h:uB P l) (hm:yH P ml):aP P (oD l ml ex):=⟨h,hm⟩
theorem aO {P:Program} {l:List (Nat×(List PV→Option RV))} (h:uB P l):aP P (bQ l):=⟨h,jf⟩
end Go.Proofs.YtibbgjafjhcemaaDoor.Cul
namespace Go.Proofs.YtibbgjafjhcemaaDoor.Cul
open Go Go.RowKit
def kA:PV→Bool
 | .lit v=>iA v
 |_=>false
def jy:PV→Bool
 | .ag cs=>cs.all kA
 |p=>kA p
def mc:PV→Value
 | .lit v=>v
 | .ag cs=> .agg ((cs.map fun| .lit v=>v|_=>undef).toArray)
 |_=>undef
theorem Cf {w:World} {Pr:aD}:∀{cs:List PV},cs.all kA=true→aT w Pr cs (cs.map fun| .lit v=>v|_=>undef)∧One (cs.map fun| .lit v=>v|_=>undef)
 |[],_=>⟨.nil,fun v h=>by simp at h⟩
 |p::cs,h=>by
  simp only [List.all_cons,Bool.and_eq_true] at h
  obtain ⟨h1,h2⟩:=Cf h.2
  cases p with
  |lit v=>
   have hs:iA v=true:=h.1
   refine ⟨.cons (.lit hs) h1,fun u hu=> ?_⟩
   simp only [List.map_cons,List.mem_cons] at hu
   rcases hu with rfl|hu
   · cases u<;>simp_all [iA,Value.oneCell']
   · exact h2 u hu
  |_=>simp [kA] at h
theorem ye {w:World} {Pr:aD} {p:PV} (h:jy p=true):Rp w Pr p (mc p):=by
 cases p with
 |lit v=>exact .lit h
 |ag cs=>obtain ⟨h1,h2⟩:=Cf (w:=w) (Pr:=Pr) (cs:=cs) h;exact .ag h1 h2
 |_=>simp [jy,kA] at h
theorem Ce {w:World} {Pr:aD}:∀{cs:List PV} {vs:List Value},cs.all kA=true→aT w Pr cs vs→vs=(cs.map fun| .lit v=>v|_=>undef)
 |_,_,_, .nil=>rfl
 |_,_,h, .cons h1 hs=>by
  simp only [List.all_cons,Bool.and_eq_true] at h
  rw [Ce h.2 hs]
  cases h1 with
  |lit _=>rfl
  |_=>simp [kA] at h
theorem yd {w:World} {Pr:aD} {p:PV} {v:Value} (h:jy p=true) (k:Rp w Pr p v):v=mc p:=by
 cases k with
 |lit _=>rfl
 |ag hr h1=>simp only [mc];rw [Ce h hr]
 |_=>simp [jy,kA] at h
theorem vJ {w:World} {Pr:aD}:∀{ps:List PV} {vs:List Value},ps.all jy=true→aT w Pr ps vs→vs=ps.map mc
 |_,_,_, .nil=>rfl
 |_,_,h, .cons h1 hs=>by
  simp only [List.all_cons,Bool.and_eq_true] at h
  rw [vJ h.2 hs,yd h.1 h1];rfl
theorem vK {w:World} {Pr:aD}:∀{ps:List PV},ps.all jy=true→aT w Pr ps (ps.map mc)
 |[],_=> .nil
 |p::ps,h=>by
  simp only [List.all_cons,Bool.and_eq_true] at h
  exact .cons (ye h.1) (vK h.2)
def IZ:AV→AV
 | .pv p=> .pv p
 |_=> .dead
def Dv:AV→AV
 | .pv p=>if jy p then .pv p else .dead
 |_=> .dead
def St.only (f:AV→AV) (st:St):St:={ sl:=st.sl.map fun x=>(x.1,f x.2),bx:=[],gr:=[],tg:=[]}
def yC (o:Oper) (st:St):Option (Nat×List PV):=
 match o.op with
 | .call { callee:= .value g,args, .. }=>match st.ev g with
   |some (.pv (.lit (.func (.yield j) _ _)))=>if args.toList.any (fun x=>((st.ev x).map cw).getD true) then none else (eH st args.toList).map (j, ·)
   |_=>none
 |_=>none
section
variable (P:Program) (call:Cl) (note:Nat→eE) (yr:Nat→Bool) (l:Nat) (xs:Nat→List PV) (N:Nat) (fuel:Nat)
def uz (ops:List Oper):List Oper→St→Option Nat→(St→Option Nat→Prop)→Prop
 |[],st,k,K=>K st k
 |o::r,st,k,K=>match eA ops o st with
  |some true=>match yC o st with
   |some (j,gp)=>match k with
    |some i=>j=l∧i<N∧gp=xs i∧uz ops r ((st.only IZ).put o.dst (.pv (.lit (.bool true)))) (some (i+1)) K∧uz ops r ((st.only Dv).put o.dst (.pv (.lit (.bool false)))) none K
    |none=>False
   |none=>match iK P call o st with
    |some s=>uz ops r s k K
    |none=>False
  |some false=>uz ops r (st.put o.dst fL) k K
  |none=>False
abbrev YT:=(Xt→St→Option Nat→Prop)→Prop
def yV (f:St→Option Nat→YT) (Q:Xt→St→Option Nat→Prop):Nat→St→Option Nat→Prop
 |0,_,_=>False
 |n+1,st,k=>f st k fun x s k'=>match x with
  | .normal=>yV f Q n s k'
  |x=>Q x s k'
def mF:Code→St→Option Nat→YT
 | .skip,st,k,Q=>Q .normal st k
 | .region id ops dr,st,k,Q=>if yr id then dr=false∧uz P call l xs N ops.toList ops.toList ((note id).still.foldl St.sI st) k (fun s k'=>Q .normal (s.cc (note id).keep) k')
   else match kV P call ops.toList dr ((note id).still.foldl St.sI st) with
    |some s=>Q .normal (s.cc (note id).keep) k
    |none=>False
 | .seq a b,st,k,Q=>mF a st k fun x s k'=>match x with
   | .normal=>mF b s k' Q
   |x=>Q x s k'
 | .cond c t e,st,k,Q=>match st.val c with
   |some (.bool true)=>mF t st k Q
   |some (.bool false)=>mF e st k Q
   |_=>False
 | .block id c,st,k,Q=>mF c st k fun x s k'=>match x with
   | .exit j=>if j=id then Q .normal s k' else Q (.exit j) s k'
   |x=>Q x s k'
 | .loop c,st,k,Q=>yV (mF c) Q fuel st k
 | .exit id,st,k,Q=>Q (.exit id) st k
 | .ret,st,k,Q=>Q .ret st k
 |_,_,_,_=>False
end
section
variable {P:Program} {call:Cl} {note:Nat→eE} {yr:Nat→Bool} {l:Nat} {xs:Nat→List PV} {N fuel:Nat} {n:Nat} {M:Nat} {J:Nat→aD→World→Prop} {Jx:World→Prop}
def jn:eM:=⟨fun _=>none,some []⟩
def YG (J:Nat→aD→World→Prop) (Jx:World→Prop) (M:Nat) (k:Option Nat) (st:St) (a:Act) (W:World):Prop:=
 match k with
 |some i=>∃A Pi,J i Pi A∧A.grownBy W none∧(∀b o,Pi b o→∃v,A.cell? ⟨b,o,none⟩=some v)∧Good A.heap.size A Pi M jn st a W
 |none=>∃A Pi,Jx A∧A.grownBy W none∧Good A.heap.size A Pi M jn st a W
theorem g8 {A W W':World} (hg:A.grownBy W none) (h:Below A.heap.size A W'):A.grownBy W' none:=⟨h.os,h.tape,h.output,h.size,fun k hk _=>h.block k hk⟩
theorem Good.below {base:Nat} {w0:World} {bg:aD} {st:St} {a:Act} {w:World} {bf:eM} (G:Good base w0 bg M bf st a w):Below base w0 w:=by
 obtain ⟨_,_,_,h,_⟩:=G;exact h
theorem YG.step {k:Option Nat} {st st':St} {a:Act} {W:World} {c:Code} {R:Exit→Act→World→Prop} {x:Exit} (G:YG J Jx M k st a W)
  (h:∀A Pi,Good A.heap.size A Pi M jn st a W→∀R:Exit→Act→World→Prop,(∀a' W',Good A.heap.size A Pi M jn st' a' W'→R x a' W')→c.wpIn Fence.wide n P R a W)
  (hR:∀a' W',YG J Jx M k st' a' W'→R x a' W'):c.wpIn Fence.wide n P R a W:=by
 cases k with
 |some i=>
  obtain ⟨A,Pi,h1,h2,h3,h4⟩:=G
  exact h A Pi h4 R fun a' W' G'=>hR a' W' ⟨A,Pi,h1,g8 h2 G'.below,h3,G'⟩
 |none=>
  obtain ⟨A,Pi,h1,h2,h4⟩:=G
  exact h A Pi h4 R fun a' W' G'=>hR a' W' ⟨A,Pi,h1,g8 h2 G'.below,G'⟩
theorem YG.less {k:Option Nat} {st st':St} {a:Act} {W:World} (G:YG J Jx M k st a W) (h:∀base w0 bg,Good base w0 bg M jn st a W→Good base w0 bg M jn st' a W):YG J Jx M k st' a W:=by
 cases k with
 |some i=>obtain ⟨A,Pi,h1,h2,h3,h4⟩:=G;exact ⟨A,Pi,h1,h2,h3,h _ _ _ h4⟩
 |none=>obtain ⟨A,Pi,h1,h2,h4⟩:=G;exact ⟨A,Pi,h1,h2,h _ _ _ h4⟩
theorem YG.any {k:Option Nat} {st:St} {a:Act} {W:World} (G:YG J Jx M k st a W):∃base w0 bg,Good base w0 bg M jn st a W:=by
 cases k with
 |some i=>obtain ⟨A,Pi,h1,h2,h3,h4⟩:=G;exact ⟨_,_,_,h4⟩
 |none=>obtain ⟨A,Pi,h1,h2,h4⟩:=G;exact ⟨_,_,_,h4⟩
theorem xL {W:World} {Pi:aD} {st:St} {a:Act} (hp:∀b o,Pi b o→b<W.heap.size) (hsz:a.tmps.size=M) (hd:a.defers=[]) (dF:st.bx=[]) (eT:st.gr=[]) (MO:st.tg=[])
  (h:∀t av,look st.sl t=some av→∃v,a.tmps[t]? =some v∧(av= .dead∨∃p,av= .pv p∧Rp W Pi p v)):Good W.heap.size W Pi M jn st a W:=by
 have hnl:∀x,¬live st x:=by
  intro x hx
  cases x with
  |bx k=>obtain ⟨cs,h1⟩:=hx;rw [dF] at h1;simp [look] at h1
  |sx t=>
   rcases hx with ⟨sz,n,cs,h1⟩|⟨z,h1⟩
   · obtain ⟨v,_,h2|⟨p,h2,_⟩⟩:=h t _ h1<;>simp at h2
   · rw [eT] at h1;simp [aQ] at h1
  |cx k o=>obtain ⟨z,h1⟩:=hx;rw [eT] at h1;simp [aQ] at h1
 refine ⟨Pi,fun _=>0, ?_,Below.refl _ _,fun _ _ _ h=>h,KO.refl _,fun k b e=>by simp [jn] at e,fun _ _ _ h1 h2=>⟨h1,h2⟩,fun ds e=>by simp only [jn,Option.some.injEq] at e;rw [hd,e]⟩
 constructor
 · exact hsz
 · rw [hd];exact ⟨by simp,List.nodup_nil⟩
 · exact Nat.le_refl _
 · exact hp
 · intro t av ht
   obtain ⟨v,hv,h2⟩:=h t av ht
   refine ⟨v,hv, ?_⟩
   rcases h2 with rfl|⟨p,rfl,hr⟩
   · trivial
   · exact hr
 · exact fun x hx=>absurd hx (hnl x)
 · exact fun x _ hx=>absurd hx (hnl x)
 · intro k cs h1;rw [dF] at h1;simp [look] at h1
 · intro t z h1;rw [eT] at h1;simp [aQ] at h1
 · intro k i z h1;rw [eT] at h1;simp [aQ] at h1
 · intro t q h1;rw [MO] at h1;simp [look] at h1
theorem xX (f:AV→AV) (st:St) (t:Nat):look (st.only f).sl t=(look st.sl t).map f:=cg (fun x=>(x.1,f x.2)) (fun _ v=>f v) (fun _=>rfl) st.sl t
theorem DS {o:Oper} {a:Act} {W:World} {K:Act→World→Prop} {Q:Exit→Act→World→Prop} {g:Operand} {args:Array Operand} {ts:Array TypeId} {fi ca:Array Value} {R:Ending→World→Prop}
  (ho:o.op= .call { callee:= .value g,args:=args,argTypes:=ts}) (hg:a.eval g= .func (.yield l) fi ca) (hf:fi= #[]) (hy:YieldAt Fence.wide (n - 1) P l (args.map a.eval) W R)
  (hR:∀e W',R e W'→∃v,e= .returned v∧K (a.put o.dst v) W'):o.wpIn Fence.wide n P a W K Q:=by
 refine ⟨fun f _=>trivial, ?_⟩
 rw [Oper.semAt_plain Fence.wide _ _ (fun c h=>by rw [ho] at h;simp at h)]
 obtain ⟨fn,tmps,assign,body,h1,h2⟩:=hy
 have:(execOp a.eval o).run P W= .ok (.round l fn tmps assign body) W:=by
  subst hf
  simp [execOp,ho,resolve,hg,Deferred.ofValue,invoke,h1]
 rw [this,Oper.uponIn_round]
 refine ⟨fun h=>by simp [Fence.wide] at h,h2.mono fun e W' h=> ?_⟩
 obtain ⟨v,rfl,hk⟩:=hR e W' h
 exact hk
end
end Go.Proofs.YtibbgjafjhcemaaDoor.Cul
namespace Go.Proofs.YtibbgjafjhcemaaDoor.Cul
open Go Go.RowKit
section
variable {P:Program} {call:Cl} {note:Nat→eE} {yr:Nat→Bool} {l:Nat} {xs:Nat→List PV} {N fuel:Nat} {n:Nat} {M:Nat} {J:Nat→aD→World→Prop} {Jx:World→Prop}
structure YP (P:Program) (n l N:Nat) (xs:Nat→List PV) (J:Nat→aD→World→Prop) (Jx:World→Prop):Prop where
 grow:∀k Pi A B,J k Pi A→A.grownBy B none→J k (Pi.plus A B) B
 aab:∀A B,Jx A→A.grownBy B none→Jx B
 plain:∀k,k<N→(xs k).all jy=true
 round:∀k Pi W1,J k Pi W1→k<N→YieldAt Fence.wide (n - 1) P l ((xs k).map mc).toArray W1 fun e W'=>(e= .returned (.bool true)∧J (k+1) Pi W'∧iD Pi W1 W'∧W1.heap.size≤W'.heap.size)∨(e= .returned (.bool false)∧Jx W')
theorem AK {a:Act} {d:Option Tmp} {v:Value}:(a.put d v).defers=a.defers:=by cases d<;>rfl
theorem zI {W:World} {Pi:aD} {st:St} {a:Act} {d:Option Tmp} {b:Bool} (hN:∀t,d=some t→t<M) (hp:∀b o,Pi b o→b<W.heap.size) (hsz:a.tmps.size=M) (hd:a.defers=[]) (f:AV→AV)
  (h:∀t av,look (st.only f).sl t=some av→∃v,a.tmps[t]? =some v∧(av= .dead∨∃p,av= .pv p∧Rp W Pi p v)):Good W.heap.size W Pi M jn ((st.only f).put d (.pv (.lit (.bool b)))) (a.put d (.bool b)) W:=by
 cases d with
 |none=>exact xL hp hsz hd rfl rfl rfl h
 |some t=>
  have ht:=hN t rfl
  refine xL hp (by simp [Act.put,hsz]) (by rw [AK];exact hd) rfl rfl (by simp [St.put,St.only,bL]) fun u av hu=> ?_
  rw [jK] at hu
  rw [cA (by rw [hsz];exact ht)]
  by_cases e:u=t
  · rw [if_pos e] at hu ⊢
    simp only [Option.map_some,Option.some.injEq] at hu
    refine ⟨_,rfl, ?_⟩
    rw [←hu]
    simp only [bC]
    exact .inr ⟨_,rfl, .lit rfl⟩
  · rw [if_neg e] at hu ⊢
    cases hq:look (st.only f).sl u with
    |none=>rw [hq] at hu;simp at hu
    |some y=>
     rw [hq] at hu
     simp only [Option.map_some,Option.some.injEq] at hu
     obtain ⟨v,hv,h2⟩:=h u y hq
     refine ⟨v,hv, ?_⟩
     split at hu
     · exact .inl hu.symm
     · rw [←hu];exact h2
theorem pK (hC:aP P call) (Y:YP P n l N xs J Jx) {ops:Array Oper} {Q:Exit→Act→World→Prop} {K:St→Option Nat→Prop} (hQ:∀st k a W,K st k→YG J Jx M k st a W→Q .normal a W):
  ∀(r:List Oper) (st:St) (k:Option Nat) (a:Act) (W:World),(∀o∈r,∀d,o.dst=some d→d<M)→YG J Jx M k st a W→uz P call l xs N ops.toList r st k K→wpListIn Fence.wide n P ops Q r a W
 |[],st,k,a,W,hN,G,h=>hQ st k a W h G
 |o::r,st,k,a,W,hN,G,h=>by
  have I7:∀o∈r,∀d,o.dst=some d→d<M:=fun o' ho'=>hN o' (List.mem_cons_of_mem _ ho')
  simp only [uz] at h
  refine wpListIn_step fun K2 hK=> ?_
  obtain ⟨aaa,w00,aai,G0⟩:=G.any
  obtain ⟨PrI,bkI,I,hI2⟩:=G0
  split at h
  · rename_i hw
    rw [if_pos (j5 (ops:=ops) I hw)]
    split at h
    ·
       rename_i j0 gp has
       split at h
       · rename_i i
         obtain ⟨hjl,hi,hxs,ht,hf⟩:=h
         unfold yC at has
         split at has
         · rename_i g args ts ho
           split at has
           · rename_i j fi ca Fh
             · split at has
               · simp at has
               · rename_i hlo
                 simp only [Option.map_eq_some_iff,Prod.mk.injEq] at has
                 obtain ⟨as',has,hj0,rfl⟩:=has
                 rw [hj0,hjl] at Fh
                 obtain ⟨A,Pi,hJ,hg,hex,mB,zh,I1,eJ,WY,aak,_,aaj,tC⟩:=G
                 have Md:a.defers=[]:=tC [] rfl
                 have tE:=ei I1 Fh
                 have hsc:fi= #[]∧a.eval g= .func (.yield l) fi ca:=by
                  cases hge:a.eval g<;>rw [hge] at tE<;>cases tE
                  rename_i hs
                  simp only [iA,Bool.and_eq_true,Array.isEmpty_iff] at hs
                  exact ⟨hs.1,rfl⟩
                 have hargs:=j8 I1 (by simpa using hlo) has
                 rw [hxs] at hargs
                 have O4:=vJ (Y.plain i hi) hargs
                 have Wd:=Y.grow i Pi A W hJ hg
                 have hy:=Y.round i _ W Wd hi
                 have RS:args.map a.eval=((xs i).map mc).toArray:=by
                  rw [←O4];exact Array.ext' (by simp)
                 rw [←RS] at hy
                 refine DS ho hsc.2 hsc.1 hy ?_
                 rintro e W' (⟨rfl,We,hkeep,hsize⟩|⟨rfl,Wf⟩)
                 · refine ⟨_,rfl,hK _ _ (pK hC Y hQ r _ _ _ W' I7 ?_ ht)⟩
                   have Dz:∀b o,Pi.plus A W b o→∃v,W.cell? ⟨b,o,none⟩=some v:=fun b o h=>by
                    rcases h with h|⟨_,v,h⟩
                    · obtain ⟨v,hv⟩:=hex b o h
                      exact ⟨v,(eJ.cell (p:=⟨b,o,none⟩) (sH hv)).trans hv⟩
                    · exact ⟨v,h⟩
                   have w4:Carry W mB W' (Pi.plus A W):=fun b o v h1 h2=>by
                    have Qq:Pi.plus A W b o:=by
                     by_cases hlt:b<A.heap.size
                     · exact .inl (WY b o hlt h1)
                     · exact .inr ⟨by omega,v,h2⟩
                    exact ⟨Qq,hkeep b o v Qq h2⟩
                   refine ⟨W',_,We,⟨rfl,rfl,rfl,Nat.le_refl _,fun _ _ _=>rfl⟩,fun b o h=> ?_, ?_⟩
                   · obtain ⟨v,hv⟩:=Dz b o h
                     exact ⟨v,hkeep b o v h hv⟩
                   · refine zI (hN o (by simp)) (fun b o h=> ?_) I1.size Md IZ fun t av kP=> ?_
                     · obtain ⟨v,hv⟩:=Dz b o h
                       exact Nat.lt_of_lt_of_le (sH hv) hsize
                     · rw [xX] at kP
                       cases hq:look st.sl t with
                       |none=>rw [hq] at kP;simp at kP
                       |some y=>
                        rw [hq] at kP
                        simp only [Option.map_some,Option.some.injEq] at kP
                        obtain ⟨v,hv,h2⟩:=I1.slots t y hq
                        refine ⟨v,hv, ?_⟩
                        cases y with
                        |pv p=>exact .inr ⟨p,kP.symm,Rp.carry w4 h2⟩
                        |_=>exact .inl kP.symm
                 · refine ⟨_,rfl,hK _ _ (pK hC Y hQ r _ _ _ W' I7 ?_ hf)⟩
                   refine ⟨W',fun _ _=>False,Wf,⟨rfl,rfl,rfl,Nat.le_refl _,fun _ _ _=>rfl⟩, ?_⟩
                   refine zI (hN o (by simp)) (fun b o h=>h.elim) I1.size Md Dv fun t av kP=> ?_
                   rw [xX] at kP
                   cases hq:look st.sl t with
                   |none=>rw [hq] at kP;simp at kP
                   |some y=>
                    rw [hq] at kP
                    simp only [Option.map_some,Option.some.injEq] at kP
                    obtain ⟨v,hv,h2⟩:=I1.slots t y hq
                    refine ⟨v,hv, ?_⟩
                    cases y with
                    |pv p=>
                     simp only [Dv] at kP
                     split at kP
                     · rename_i oU
                       refine .inr ⟨p,kP.symm, ?_⟩
                       rw [yd oU h2]
                       exact ye oU
                     · exact .inl kP.symm
                    |_=>exact .inl kP.symm
           · simp at has
         · simp at has
       · exact h.elim
    ·
       split at h
       · rename_i s hs
         have Mm:∀a' W',YG J Jx M k s a' W'→K2 a' W':=fun a' W' G'=>hK a' W' (pK hC Y hQ r s k a' W' I7 G' h)
         cases k with
         |some i=>
          obtain ⟨A,Pi,h1,h2,h3,mB,zh,I1,gM⟩:=G
          exact oZ lV (j6 hs) (Good.step gM (fun _ _=>rfl) (uH hC I1 (hN o (by simp)) hs) fun a' W' G'=>Mm a' W' ⟨A,Pi,h1,g8 h2 (Good.below G'),h3,G'⟩)
         |none=>
          obtain ⟨A,Pi,h1,h2,mB,zh,I1,gM⟩:=G
          exact oZ lV (j6 hs) (Good.step gM (fun _ _=>rfl) (uH hC I1 (hN o (by simp)) hs) fun a' W' G'=>Mm a' W' ⟨A,Pi,h1,g8 h2 (Good.below G'),G'⟩)
       · exact h.elim
  · rename_i hw
    rw [if_neg (by rw [j5 (ops:=ops) I hw];simp)]
    refine ⟨fun f _=>trivial,hK _ _ (pK hC Y hQ r _ k _ W I7 ?_ h)⟩
    have skip:∀base w0 bg,Good base w0 bg M jn st a W→Good base w0 bg M jn (st.put o.dst fL) (a.put o.dst undef) W:=fun base w0 bg ⟨mB,zh,I1,gM⟩=>by
     obtain ⟨aS,I',hbk⟩:=xx I1 (hN o (by simp))
     exact ⟨mB,aS,I',gM.1,gM.2.1,gM.2.2.1,fun k b e=>by simp [jn] at e,gM.2.2.2.2.1,fun ds e=>by rw [AK];exact gM.2.2.2.2.2 ds e⟩
    cases k with
    |some i=>obtain ⟨A,Pi,h1,h2,h3,h4⟩:=G;exact ⟨A,Pi,h1,h2,h3,skip _ _ _ h4⟩
    |none=>obtain ⟨A,Pi,h1,h2,h4⟩:=G;exact ⟨A,Pi,h1,h2,skip _ _ _ h4⟩
  · exact h.elim
end
end Go.Proofs.YtibbgjafjhcemaaDoor.Cul
namespace Go.Proofs.YtibbgjafjhcemaaDoor.Cul
open Go Go.RowKit
section
variable {P:Program} {call:Cl} {note:Nat→eE} {yr:Nat→Bool} {l:Nat} {xs:Nat→List PV} {N fuel:Nat} {n:Nat} {M:Nat} {J:Nat→aD→World→Prop} {Jx:World→Prop}
theorem wJ {c:Code} {f:St→Option Nat→YT} {Q:Xt→St→Option Nat→Prop} {R:Exit→Act→World→Prop}
  (hf:∀st k Q a W (R:Exit→Act→World→Prop),f st k Q→YG J Jx M k st a W→(∀x s k' a' W',Q x s k'→YG J Jx M k' s a' W'→R (toExit x) a' W')→c.wpIn Fence.wide n P R a W)
  (hR:∀x s k' a' W',Q x s k'→YG J Jx M k' s a' W'→R (toExit x) a' W'):
  ∀(m:Nat) (st:St) (k:Option Nat) (a:Act) (W:World),yV f Q m st k→YG J Jx M k st a W→Code.roundsIn Fence.wide n P c R m a W
 |0,st,k,a,W,h,G=>h.elim
 |m+1,st,k,a,W,h,G=>by
  simp only [yV] at h
  rw [roundsIn_succ]
  refine hf st k _ a W _ h G fun x s k' a' W' hq G'=> ?_
  cases x with
  |normal=>exact wJ hf hR m s k' a' W' hq G'
  |exit id=>exact hR _ s k' a' W' hq G'
  |ret=>exact hR _ s k' a' W' hq G'
theorem YG.val {k:Option Nat} {st:St} {a:Act} {W:World} (G:YG J Jx M k st a W) {x:Operand} {v:Value} (h:st.val x=some v):a.eval x=v:=by
 obtain ⟨_,_,_,G⟩:=G.any
 exact G.val h
theorem nU (hC:aP P call) (hm:P.follows .mixedOrders=true) (Y:YP P n l N xs J Jx):∀(c:Code),bZ M c=true→∀(st:St) (k:Option Nat) (Q:Xt→St→Option Nat→Prop) (a:Act) (W:World) (R:Exit→Act→World→Prop),
  mF P call note yr l xs N fuel c st k Q→YG J Jx M k st a W→(∀x s k' a' W',Q x s k'→YG J Jx M k' s a' W'→R (toExit x) a' W')→c.wpIn Fence.wide n P R a W
 | .skip,_,st,k,Q,a,W,R,h,G,hR=>wpIn_skip (hR .normal st k a W h G)
 | .region id ops dr,hok,st,k,Q,a,W,R,h,G,hR=>by
   have Gs:YG J Jx M k ((note id).still.foldl St.sI st) a W:=G.less fun _ _ _ g=>Good.wv _ g
   simp only [mF] at h
   split at h
   · obtain ⟨rfl,h⟩:=h
     simp only [bZ,kD,Bool.and_eq_true] at hok
     refine wpIn_region_list (pK hC Y (fun s k' a' W' hq G'=>hR .normal _ k' a' W' hq (G'.less fun _ _ _ g=>g.cc _)) ops.toList _ k a W (fun o ho d hd=> ?_) Gs h)
     have:=List.all_eq_true.1 hok.1 o ho
     rw [hd] at this;simpa using this
   · split at h
     · rename_i s hs
       exact Gs.step (x:= .normal) (fun A Pi g R Wl=>yh lV n hC hm hok (fun _ _ _ _=>rfl) g hs Wl) fun a' W' G'=>hR .normal _ k a' W' h (G'.less fun _ _ _ g=>g.cc _)
     · exact h.elim
 | .seq p q,hok,st,k,Q,a,W,R,h,G,hR=>by
   simp only [bZ,Bool.and_eq_true] at hok
   simp only [mF] at h
   refine wpIn_seq (nU hC hm Y p hok.1 st k _ a W _ h G fun x s k' a' W' hq G'=> ?_)
   cases x with
   |normal=>exact nU hC hm Y q hok.2 s k' Q a' W' R hq G' hR
   |exit id=>exact hR _ s k' a' W' hq G'
   |ret=>exact hR _ s k' a' W' hq G'
 | .cond c t e,hok,st,k,Q,a,W,R,h,G,hR=>by
   simp only [bZ,Bool.and_eq_true] at hok
   simp only [mF] at h
   split at h
   · rename_i hv
     exact wpIn_cond_true (G.val hv) (nU hC hm Y t hok.1 st k Q a W R h G hR)
   · rename_i hv
     exact wpIn_cond_false (G.val hv) (nU hC hm Y e hok.2 st k Q a W R h G hR)
   · exact h.elim
 | .block id c,hok,st,k,Q,a,W,R,h,G,hR=>by
   simp only [bZ] at hok
   simp only [mF] at h
   refine wpIn_block (nU hC hm Y c hok st k _ a W _ h G fun x s k' a' W' hq G'=> ?_)
   cases x with
   |normal=>exact hR .normal s k' a' W' hq G'
   |exit j=>
    simp only [toExit,Exit.inBlock]
    simp only at hq
    split at hq
    · rename_i hj;rw [if_pos hj];exact hR .normal s k' a' W' hq G'
    · rename_i hj;rw [if_neg hj];exact hR (.exit j) s k' a' W' hq G'
   |ret=>exact hR .ret s k' a' W' hq G'
 | .loop c,hok,st,k,Q,a,W,R,h,G,hR=>by
   simp only [bZ] at hok
   simp only [mF] at h
   exact wpIn_loop_rounds fuel (wJ (f:=mF P call note yr l xs N fuel c) (fun st k Q a W R h G hR=>nU hC hm Y c hok st k Q a W R h G hR) hR fuel st k a W h G)
 | .rangeFunc ..,_,st,k,Q,a,W,R,h,G,hR=>h.elim
 | .exit id,_,st,k,Q,a,W,R,h,G,hR=>wpIn_exit (hR (.exit id) st k a W h G)
 | .ret,_,st,k,Q,a,W,R,h,G,hR=>wpIn_ret (hR .ret st k a W h G)
 | .label _,hok,_,_,_,_,_,_,_,_,_=>by simp [bZ] at hok
 | .goto _,hok,_,_,_,_,_,_,_,_,_=>by simp [bZ] at hok
end
def IS (N:Nat):Xt→St→Option Nat→Prop
 | .exit _,_,_=>False
 |_,_,k=>k=none∨k=some N
def yv (l:Nat):PV:= .lit (.func (.yield l) #[] #[])
theorem Br {P:Program} {call:Cl} (hC:aP P call) (hm:P.follows .mixedOrders=true) {f:Nat} {fn:Func} {c:Code} (hf:P.funcs[f]? =some fn) (hb:fn.body=some c) (hok:bZ fn.ntmps c=true) (hnm:(fn.name== "runtime.NumGoroutine")=false) (hres:fn.results= #[])
  {note:Nat→eE} {yr:Nat→Bool} {fuel k:Nat} {caps:List PV} {xs:List (List PV)} (hlen:∀x∈xs,x.length=k∧x.all jy=true)
  (h:∀l,mF P call note yr l (fun i=>xs.getD i []) xs.length fuel c (.enter (yv l::caps)) (some 0) (IS xs.length)):
  oF P f∧∀(vs:List Value) (w:World) (Pr:aD),(∀b o,Pr b o→b<w.heap.size)→aT w Pr caps vs→
  ∃enc:Nat→List Value,(∀i x,xs[i]? =some x→(enc i).length=k∧∀W aC,aT W aC x (enc i))∧∀n,1≤n→C8 P n f vs.toArray (fun i=>(enc i).toArray) xs.length Pr w:=by
 refine ⟨⟨fn,c,hf,hb,hnm⟩,fun vs w Pr hp hr=>⟨fun i=>(xs.getD i []).map mc,fun i x hx=> ?_,fun n hn l J Jx W iO hgrow Fi MI h0=> ?_⟩⟩
 · have hm:=List.mem_of_getElem? hx
   have hg:xs.getD i []=x:=by rw [List.getD_eq_getElem?_getD,hx];rfl
   simp only [hg]
   exact ⟨by rw [List.length_map];exact (hlen x hm).1,fun W aC=>vK (hlen x hm).2⟩
 · have Y:YP P n l xs.length (fun i=>xs.getD i []) J Jx:=⟨hgrow,Fi,fun i hi=>(hlen _ (by
     rw [List.getD_eq_getElem?_getD,List.getElem?_eq_getElem hi];exact List.getElem_mem hi)).2,fun i Pi W1 hJ hi=>MI i Pi W1 hJ hi⟩
   refine callsIn_of_wp hf hb trivial ?_ rfl
   have w4:Carry w Pr W (Pr.here w):=fun b o v h1 h2=>⟨⟨h1,v,h2⟩,(iO.cell (p:=⟨b,o,none⟩) (hp b o h1)).trans h2⟩
   have hrl:aT W (Pr.here w) (yv l::caps) ((.func (.yield l) #[] #[])::vs):= .cons (.lit rfl) (aT.carry w4 hr)
   have vg:∀b o,Pr.here w b o→b<W.heap.size:=fun b o h=>Nat.lt_of_lt_of_le (hp b o h.1) iO.size
   have I0:=xI vg hrl (fn.ntmps - (#[Value.func (.yield l) #[] #[]]++vs.toArray).size)
   have Dz:∀b o,Pr.here w b o→∃v,W.cell? ⟨b,o,none⟩=some v:=fun b o h=>by
    obtain ⟨v,hv⟩:=h.2
    exact ⟨v,(iO.cell (p:=⟨b,o,none⟩) (hp b o h.1)).trans hv⟩
   have MC:bZ ((Value.func (.yield l) #[] #[]::vs).length+(fn.ntmps - (#[Value.func (.yield l) #[] #[]]++vs.toArray).size)) c=true:=dM (by simp;omega) hok
   have G:YG J Jx ((Value.func (.yield l) #[] #[]::vs).length+(fn.ntmps - (#[Value.func (.yield l) #[] #[]]++vs.toArray).size)) (some 0) (.enter (yv l::caps)) { tmps:=(Value.func (.yield l) #[] #[]::vs).toArray++Array.replicate (fn.ntmps - (#[Value.func (.yield l) #[] #[]]++vs.toArray).size) undef,defers:=[]} W:=
    ⟨W,_,h0,⟨rfl,rfl,rfl,Nat.le_refl _,fun _ _ _=>rfl⟩,Dz,_,_,I0,Below.refl _ _,fun _ _ _ h=>h,KO.refl _,fun k b e=>by simp [jn] at e,fun _ _ _ h1 h2=>⟨h1,h2⟩,fun ds e=>by simpa [jn] using e⟩
   have hargs: #[Value.func (.yield l) #[] #[]]++vs.toArray=(Value.func (.yield l) #[] #[]::vs).toArray:=Array.ext' (by simp)
   rw [hargs]
   rw [hargs] at G MC
   refine nU hC hm Y c MC _ _ _ _ W _ (h l) G fun x s k' a' W' hq G'=> ?_
   have hd:a'.defers=[]:=by
    obtain ⟨_,_,_,_,_,_,_,_,_,_,_,hd⟩:=G'.any
    exact hd [] rfl
   have fin:(k'=none∨k'=some xs.length)→(∃v,Ending.returned (.tuple #[])= .returned v)∧((∃Pi,J xs.length Pi W')∨Jx W'):=fun hk=>by
    refine ⟨⟨_,rfl⟩, ?_⟩
    rcases hk with rfl|rfl
    · obtain ⟨A,Pi,h1,h2,_⟩:=G'
      exact .inr (Fi _ _ h1 h2)
    · obtain ⟨A,Pi,h1,h2,_⟩:=G'
      exact .inl ⟨_,hgrow _ _ _ _ h1 h2⟩
   cases x with
   |exit id=>exact hq.elim
   |normal=>exact ⟨hd,_,results_none hres _ _ _,fin hq⟩
   |ret=>exact ⟨hd,_,results_none hres _ _ _,fin hq⟩
end Go.Proofs.YtibbgjafjhcemaaDoor.Cul
namespace Go.Proofs.YtibbgjafjhcemaaDoor.Cul
open Go Go.RowKit
def ay (M:jG) (S:Cl) (k f:Nat) (args:List PV) (s:List El):Option (RV×List Prop):=
 (M.P.funcs[f]?).bind fun fn=>yZ M.P S M.iter k (M.note f) fn args s
theorem ai {M:jG} (hM:qV M) {S:Cl} (hC:aP M.P S) {k f:Nat} {args:List PV} {s:List El} {r:RV} {ob:List Prop} (hp:M.uw f=none) (h:ay M S k f args s=some (r,ob)) (ho:cH ob):aA M.P f args r:=by
 simp only [ay,Option.bind_eq_some_iff] at h
 obtain ⟨fn,hfn,h⟩:=h
 exact y6 hC hM.sO hM.o4 hfn (hM.fns f fn hfn hp) (Er h ho)
def hO (M:jG) (S:Cl) (k f:Nat) (ms:List MA) (s:List El):Option ((MR×List PV)×List Prop):=
 (M.P.funcs[f]?).bind fun fn=>wM M.P S M.iter k (M.note f) fn ms s
theorem eu {M:jG} (hM:qV M) {S:Cl} (hC:aP M.P S) {k f:Nat} {ms:List MA} {s:List El} {r:MR} {cs':List PV} {ob:List Prop} (hp:M.uw f=none) (h:hO M S k f ms s=some ((r,cs'),ob)) (ho:cH ob):dy M.P f ms r cs':=by
 simp only [hO,Option.bind_eq_some_iff] at h
 obtain ⟨fn,hfn,h⟩:=h
 exact uo hC hM.sO hM.o4 hfn (hM.fns f fn hfn hp) (De h ho)
def k8:Code→List Code
 | .seq a b| .cond _ a b=>k8 a++k8 b
 | .block _ c=>k8 c
 | .loop c=>c::k8 c
 | .rangeFunc _ _ a b=>k8 a++k8 b
 |_=>[]
def Ak (M:jG) (f j:Nat):Code:=((k8 ((((M.P.funcs[f]?).bind (·.body))).getD .skip))[j]?).getD .skip
noncomputable def aI (M:jG) (S:Cl) (k f j:Nat) (st:St):Option (Xt×St):=cI M.P S M.iter (fun g=>aR g k) (M.note f) (Ak M f j) st
def ak (M:jG) (S:Cl) (k f j:Nat) (st:St) (s:List El):Option (Ow (Xt×St)):=dO M.P S M.iter k (M.note f) (Ak M f j) st s
theorem af {M:jG} {S:Cl} {k f j:Nat} {st:St} {s s':List El} {x:Xt×St} {ob:List Prop} (h:ak M S k f j st s=some (x,s',ob)) (ho:cH ob):aI M S k f j st=some x:=cY _ _ _ _ _ _ h ho
abbrev aN (M:jG) (S:Cl) (k f j:Nat) (st:St) (x:Xt) (s1:St):Prop:=yX M.P S M.iter k (M.note f) (Ak M f j) st x s1
theorem aW {f:St→Option (Xt×St)} {n:Nat} {st s:St} {r:Xt×St} (h:f st=some (.normal,s)) (k:aR f n s=some r):aR f (n+1) st=some r:=by
 simp only [aR,h,Option.bind_some];exact k
theorem aF {f:St→Option (Xt×St)} {n:Nat} {st s:St} {x:Xt} (h:f st=some (x,s)) (hx:x≠ .normal):aR f (n+1) st=some (x,s):=by
 simp only [aR,h,Option.bind_some]
 cases x with
 |normal=>exact absurd rfl hx
 |_=>rfl
theorem bH {f:St→Option (Xt×St)}:∀{n m:Nat} {st:St} {r:Xt×St},n≤m→aR f n st=some r→aR f m st=some r
 |0,_,_,_,_,h=>by simp [aR] at h
 |n+1,0,_,_,hl,_=>by omega
 |n+1,m+1,st,r,hl,h=>by
  simp only [aR,Option.bind_eq_some_iff] at h ⊢
  obtain ⟨⟨y,s⟩,h1,h2⟩:=h
  refine ⟨(y,s),h1, ?_⟩
  cases y with
  |normal=>exact bH (by omega) h2
  |_=>exact h2
theorem cK {f:St→Option (Xt×St)} {S:Nat→St} {n:Nat} (h:∀i,i<n→f (S i)=some (.normal,S (i+1))) {r:Xt×St} (hr:f (S n)=some r) (hx:r.1≠ .normal):∀m,n<m→aR f m (S 0)=some r:=by
 have key:∀d i,i+d=n→aR f (d+1) (S i)=some r:=by
  intro d
  induction d with
  |zero=>intro i hi;have:i=n:=by omega
         subst this;obtain ⟨x,s⟩:=r;exact aF hr hx
  |succ d ih=>intro i hi;exact aW (h i (by omega)) (ih (i+1) (by omega))
 exact fun m hm=>bH hm (key n 0 (by omega))
def iv (x:Int):PV:= .lit (.int .i64 x)
def bv (b:Bool):PV:= .lit (.bool b)
def ax (x:Nat):PV:= .lit (.int .u32 (x:Int))
abbrev one (p:PV):RV:=⟨p,none⟩
def sk (g:Int→Int):List PV→Option RV
 |[.lit (.int .i64 x)]=>some (one (iv (g x)))
 |_=>none
def oC (g:Int→Int→Int):List PV→Option RV
 |[.lit (.int .i64 x), .lit (.int .i64 y)]=>some (one (iv (g x y)))
 |_=>none
def GR (p:PV):List PV→Option RV
 |[]=>some (one p)
 |_=>none
theorem mW {P:Program} {f:Nat} {g:Int→Int} (h:∀x,aA P f [iv x] (one (iv (g x)))):∀args r,sk g args=some r→aA P f args r:=by
 intro args r e
 unfold sk at e
 split at e
 · simp only [Option.some.injEq] at e;subst e;exact h _
 · simp at e
theorem iy {P:Program} {f:Nat} {g:Int→Int→Int} (h:∀x y,aA P f [iv x,iv y] (one (iv (g x y)))):∀args r,oC g args=some r→aA P f args r:=by
 intro args r e
 unfold oC at e
 split at e
 · simp only [Option.some.injEq] at e;subst e;exact h _ _
 · simp at e
theorem A5 {P:Program} {f:Nat} {p:PV} (h:aA P f [] (one p)):∀args r,GR p args=some r→aA P f args r:=by
 intro args r e
 unfold GR at e
 split at e
 · simp only [Option.some.injEq] at e;subst e;exact h
 · simp at e
end Go.Proofs.YtibbgjafjhcemaaDoor.Cul
namespace Go.Proofs.YtibbgjafjhcemaaDoor.Cul
open Go Go.RowKit Go.ChangeShapes Go.WideShapes Go.ChangeAt
open Go.Proofs.YtibbgjafjhcemaaDoor
mutual
def Ds:DataW Unit→List Value
 | .lit l=>[l.value]
 | .agg ps=>E4 ps
 |_=>[]
def E4:List (DataW Unit)→List Value
 |[]=>[]
 |d::r=>Ds d++E4 r
end
theorem ND:ownKnob Go.Proofs.Tryd.prog.godebug=none:=by kernel_rfl
def xJ (cs:List Value):Obj→Obj
 | .cells _ t fz=> .cells cs.toArray t fz
 |o=>o
noncomputable def iQ (os:Os) (args:Array Value):World:=
 let w:=World.holding Go.Proofs.Tryd.prog os ⟨#[], #[],[]⟩
 { w with heap:=(w.heap.modify 1 (xJ (Ds Rows.laid_unicode_utf8_first))).modify 2 (xJ (Ds Rows.laid_unicode_utf8_acceptRanges))}
def O5:List (String×DataW Unit):=[("unicode/utf8.acceptRanges",Rows.laid_unicode_utf8_acceptRanges),("unicode/utf8.first",Rows.laid_unicode_utf8_first)]
theorem qc (os:Os):laidMet Go.Proofs.Tryd.prog O5 ((iQ os #[]).forCall (fun _ _=>0) ⟨#[], #[],[]⟩).memory:=
 laidMet_of_run' 8 (by kernel_rfl) (by kernel_rfl)
end Go.Proofs.YtibbgjafjhcemaaDoor.Cul
namespace Go.Proofs.YtibbgjafjhcemaaDoor.Cul
open Go Go.RowKit
noncomputable abbrev P0:Program:=Go.Proofs.Tryd.prog
def T8:List (Nat×List (Nat×eE)):=[
(2,[(0,{ keep:=[]})]),
(3,[(0,{ keep:=[0,1]}),(1,{ keep:=[0,1,7]}),(2,{ keep:=[4]}),(3,{ keep:=[0,1,5]}),(4,{ keep:=[4]})]),
(4,[(0,{ keep:=[3,4,5]}),(1,{ keep:=[3,4,5,26]}),(2,{ keep:=[6]}),(3,{ keep:=[3,4,5,7,8]}),(4,{ keep:=[3,5,7,8,9,10]}),(5,{ keep:=[3,5,7,8,9,10,11,12]}),(6,{ keep:=[3,7,8,9,10,11,12,13,14]}),(7,{ keep:=[6]})]),
(5,[(0,{ keep:=[3,4,5]}),(1,{ keep:=[3,4,5,26]}),(2,{ keep:=[6]}),(3,{ keep:=[4,5,36]}),(4,{ keep:=[6]}),(5,{ keep:=[4,5,7,8]}),(6,{ keep:=[4,5,8,9,10]}),(7,{ keep:=[4,5,8,9,10,11,12]}),(8,{ keep:=[4,5,8,9,10,12,13,14]}),(9,{ keep:=[6]})]),
(6,[(0,{ keep:=[0,1,5]}),(1,{ keep:=[0,1,5,38]}),(2,{ keep:=[6]}),(3,{ keep:=[0,1,5,7,8]}),(4,{ keep:=[0,1,5,7,8,9,10]}),(5,{ keep:=[0,1,5,7,8,9,10,11,12]}),(6,{ keep:=[0,1,5,7,8,9,10,11,12,13,14]}),(7,{ keep:=[1,5,97]}),(8,{ keep:=[6]}),(9,{ keep:=[1,5,15]}),(10,{ keep:=[1,5,15,99,100,101]}),(11,{ keep:=[1,5,15,99,100,101,102]}),(12,{ keep:=[1,5,15,17,99,100,101]}),(13,{ keep:=[1,5,15,99,100,101]}),(14,{ keep:=[1,5,15,99,100,101]}),(15,{ keep:=[1,5,18,19]}),(16,{ keep:=[6]})]),
(7,[(0,{ keep:=[2,3]}),(1,{ keep:=[2,3,19]}),(2,{ keep:=[4]}),(3,{ keep:=[2,3,5,6]}),(4,{ keep:=[3,5,6,7,8]}),(5,{ keep:=[5,6,8,9,10]}),(6,{ keep:=[5,6,9,10,45]}),(7,{ keep:=[4]}),(8,{ keep:=[9,10,11,12]}),(9,{ keep:=[4]})]),
(8,[(0,{ keep:=[]}),(1,{ keep:=[1,2]}),(2,{ keep:=[0]})]),
(9,[(0,{ keep:=[0,1]}),(1,{ keep:=[4]})]),
(10,[(0,{ keep:=[0,1]}),(1,{ keep:=[4]})]),
(11,[(0,{ keep:=[0,1]}),(1,{ keep:=[4]})]),
(12,[(0,{ keep:=[0,1]}),(1,{ keep:=[4]})]),
(13,[(0,{ keep:=[0]}),(1,{ keep:=[2]})]),
(14,[(0,{ keep:=[1,2]}),(1,{ keep:=[4]})]),
(15,[(0,{ keep:=[1,2]}),(1,{ keep:=[4]})]),
(16,[(0,{ keep:=[1,2]}),(1,{ keep:=[1,2,6]}),(2,{ keep:=[2,3]}),(3,{ keep:=[2,3]})]),
(17,[(0,{ keep:=[1,2]}),(1,{ keep:=[1,2,6]}),(2,{ keep:=[2,3]}),(3,{ keep:=[2,3]})]),
(18,[(0,{ keep:=[1,2]}),(1,{ keep:=[1,2,6]}),(2,{ keep:=[2,3]}),(3,{ keep:=[2,3]})]),
(19,[(0,{ keep:=[1,2]}),(1,{ keep:=[1,2,6]}),(2,{ keep:=[2,3]}),(3,{ keep:=[2,3]})]),
(20,[(0,{ keep:=[1,2]}),(1,{ keep:=[1,2,5]}),(2,{ keep:=[2]}),(3,{ keep:=[2]})]),
(21,[(0,{ keep:=[1,2]}),(1,{ keep:=[1,2,5]}),(2,{ keep:=[2]}),(3,{ keep:=[2]})]),
(22,[(0,{ keep:=[1]}),(1,{ keep:=[2]})]),
(23,[(0,{ keep:=[0,1,11]}),(1,{ keep:=[0,1,11,14]}),(2,{ keep:=[4,5,11]}),(3,{ keep:=[0,1,6,11]}),(4,{ keep:=[1,6,11,15,16,17]}),(5,{ keep:=[1,6,11,15,16,17,18]}),(6,{ keep:=[1,6,8,11,15,16,17]}),(7,{ keep:=[1,6,8,9,10,11,15,16,17]}),(8,{ keep:=[1,6,8,9,10,11,15,16,17,27]}),(9,{ keep:=[4,5,11]}),(10,{ keep:=[1,6,8,9,11,15,16,17,31]}),(11,{ keep:=[1,6,9,11,15,16,17]}),(12,{ keep:=[1,6,11,15,16,17]}),(13,{ keep:=[1,6,11,15,16,17]}),(14,{ keep:=[6,11]}),(15,{ keep:=[6,11],still:=[11],oE:=[6]}),(16,{ keep:=[4,5,11],still:=[6]})]),
(24,[(0,{ keep:=[0,1]}),(1,{ keep:=[0,1,13]}),(2,{ keep:=[4,5]}),(3,{ keep:=[0,1,6,7]}),(4,{ keep:=[0,1,6,7,8]}),(5,{ keep:=[0,1,6,7,8,17]}),(6,{ keep:=[0,1,6,7,8]}),(7,{ keep:=[0,1,6,7,8,9,10]}),(8,{ keep:=[0,1,6,7,8,9,10,29]}),(9,{ keep:=[4,5]}),(10,{ keep:=[0,1,6,7,8,9,33]}),(11,{ keep:=[0,1,6,7,8,9]}),(12,{ keep:=[0,1,6,7,8,9,47]}),(13,{ keep:=[0,1,6,7,8]}),(14,{ keep:=[0,1,6,7,8]}),(15,{ keep:=[4,5]})]),
(25,[(0,{ keep:=[0,1]}),(1,{ keep:=[0,1,17]}),(2,{ keep:=[4,5]}),(3,{ keep:=[0,1,6]}),(4,{ keep:=[0,1,6,26,27]}),(5,{ keep:=[0,1,6,26,27,28]}),(6,{ keep:=[0,1,6,7,26,27]}),(7,{ keep:=[0,1,6,26,27,40]}),(8,{ keep:=[4,5]}),(9,{ keep:=[0,1,6,26,27]}),(10,{ keep:=[4,5]})]),
(26,[(0,{ keep:=[0,1]}),(1,{ keep:=[0,1,17]}),(2,{ keep:=[4,5]}),(3,{ keep:=[0,1,6]}),(4,{ keep:=[0,1,6,7]}),(5,{ keep:=[0,1,6,7,28]}),(6,{ keep:=[0,1,6,7]}),(7,{ keep:=[0,1,6,7,41]}),(8,{ keep:=[4,5]}),(9,{ keep:=[4,5]})]),
(27,[(0,{ keep:=[0,1]}),(1,{ keep:=[0,1,10]}),(2,{ keep:=[4]}),(3,{ keep:=[0,1,5]}),(4,{ keep:=[0,1,5,14]}),(5,{ keep:=[0,1,5]}),(6,{ keep:=[0,1,5,25]}),(7,{ keep:=[4]}),(8,{ keep:=[4]})]),
(28,[(0,{ keep:=[2,3,4]}),(1,{ keep:=[2,3,4,8]}),(2,{ keep:=[4,5]}),(3,{ keep:=[2,3,4,13]}),(4,{ keep:=[4,5]}),(5,{ keep:=[2,3,4,6]}),(6,{ keep:=[3,4,7]}),(7,{ keep:=[4,5]})]),
(29,[(0,{ keep:=[0,1,2,6]}),(1,{ keep:=[6]})]),
(30,[(0,{ keep:=[0]}),(1,{ keep:=[0]}),(2,{ keep:=[0,6]}),(3,{ keep:=[0]}),(4,{ keep:=[2]})]),
(31,[(0,{ keep:=[1,2]}),(1,{ keep:=[1,2,5]}),(2,{ keep:=[1,2,5,7]}),(3,{ keep:=[1,2,5]}),(4,{ keep:=[1,2,5,17]}),(5,{ keep:=[4]}),(6,{ keep:=[4]})]),
(32,[(0,{ keep:=[1]}),(1,{ keep:=[2]})]),
(33,[(0,{ keep:=[1]}),(1,{ keep:=[2]})]),
(34,[(0,{ keep:=[1]}),(1,{ keep:=[1,32]}),(2,{ keep:=[2]}),(3,{ keep:=[2]})]),
(35,[(0,{ keep:=[1]}),(1,{ keep:=[2]})]),
(36,[(0,{ keep:=[1,2,8]}),(1,{ keep:=[2,6,8]}),(2,{ keep:=[2,4,8]}),(3,{ keep:=[2,8,11]}),(4,{ keep:=[2]}),(5,{ keep:=[2]})]),
(37,[(0,{ keep:=[1,2]}),(1,{ keep:=[1,2,6]}),(2,{ keep:=[2]}),(3,{ keep:=[1,2,8]}),(4,{ keep:=[1,2,8,9]}),(5,{ keep:=[1,2,3,8]}),(6,{ keep:=[1,2,8]}),(7,{ keep:=[1,2,8]}),(8,{ keep:=[2]})]),
(38,[(0,{ keep:=[1,2]}),(1,{ keep:=[1,2,7]}),(2,{ keep:=[2]}),(3,{ keep:=[1,2,3]}),(4,{ keep:=[1,2,3,4]}),(5,{ keep:=[1,2,3,4,11]}),(6,{ keep:=[1,2,3,4]}),(7,{ keep:=[1,2,3,4]}),(8,{ keep:=[2]})]),
(39,[(0,{ keep:=[1]}),(1,{ keep:=[1,3,4]}),(2,{ keep:=[1,3,12]}),(3,{ keep:=[2]}),(4,{ keep:=[1,5]}),(5,{ keep:=[1,5,6]}),(6,{ keep:=[1,5,6,23]}),(7,{ keep:=[1,5,6]}),(8,{ keep:=[1,5,6,31]}),(9,{ keep:=[2]}),(10,{ keep:=[1,5,6]}),(11,{ keep:=[2]})]),
(40,[(0,{ keep:=[1]}),(1,{ keep:=[5]}),(2,{ keep:=[2]}),(3,{ keep:=[2]})]),
(41,[(0,{ keep:=[]})])]
def T9:List (Nat×List (Nat×eE)):=[
(42,[(0,{ keep:=[2,3,4]}),(1,{ keep:=[5]})]),
(43,[(0,{ keep:=[1]}),(1,{ keep:=[1,6,7]}),(2,{ keep:=[1,6,7,8]}),(3,{ keep:=[1,4,6,7]}),(4,{ keep:=[1,6,7,12]}),(5,{ keep:=[2]}),(6,{ keep:=[1,6,7]}),(7,{ keep:=[2]})]),
(44,[(0,{ keep:=[0,2]}),(1,{ keep:=[2]})]),
(45,[(0,{ keep:=[2,3,4]}),(1,{ keep:=[2,3,4,12]}),(2,{ keep:=[4]}),(3,{ keep:=[4]})]),
(46,[(0,{ keep:=[0,2]}),(1,{ keep:=[0,2]}),(2,{ keep:=[0,2,6]}),(3,{ keep:=[0,2]}),(4,{ keep:=[0,2,10]}),(5,{ keep:=[2]}),(6,{ keep:=[2]})]),
(47,[(0,{ keep:=[0,2]}),(1,{ keep:=[2]})]),
(48,[(0,{ keep:=[0,2]}),(1,{ keep:=[2]})]),
(49,[(0,{ keep:=[1]}),(1,{ keep:=[2]})]),
(50,[(0,{ keep:=[1]}),(1,{ keep:=[2]})]),
(51,[(0,{ keep:=[0,1]}),(1,{ keep:=[0,1,6]}),(2,{ keep:=[0,1]}),(3,{ keep:=[4]})]),
(52,[(0,{ keep:=[0,1]}),(1,{ keep:=[0,1,6]}),(2,{ keep:=[0,1]}),(3,{ keep:=[4]})]),
(53,[(0,{ keep:=[1]}),(1,{ keep:=[1,2]})]),
(54,[(0,{ keep:=[1,2]}),(1,{ keep:=[1,2,5]}),(2,{ keep:=[2]}),(3,{ keep:=[2]})]),
(55,[(0,{ keep:=[1,2]}),(1,{ keep:=[1,2,10]}),(2,{ keep:=[2]}),(3,{ keep:=[2]})]),
(56,[(0,{ keep:=[1,2]}),(1,{ keep:=[1,2,4]}),(2,{ keep:=[1,2,4,5]}),(3,{ keep:=[1,2,4,5,9]}),(4,{ keep:=[1,2,4,5]}),(5,{ keep:=[1,2,4,5,6]}),(6,{ keep:=[1,2,4,5,6,15]}),(7,{ keep:=[1,2,4,5,6]}),(8,{ keep:=[1,2,4,5,6,28]}),(9,{ keep:=[2,3]}),(10,{ keep:=[1,2,4,5,6,7]}),(11,{ keep:=[1,2,4,5,6,7,34]}),(12,{ keep:=[1,2,4,5,6,7]}),(13,{ keep:=[1,2,4,5,6,7]}),(14,{ keep:=[1,2,4,5,50]}),(15,{ keep:=[1,2,4,5]}),(16,{ keep:=[2,3]})]),
(57,[(0,{ keep:=[1]}),(1,{ keep:=[1,3]}),(2,{ keep:=[1,3,4]}),(3,{ keep:=[1,3,4,8]}),(4,{ keep:=[1,3,4]}),(5,{ keep:=[1,4,5,6]}),(6,{ keep:=[1,4,5,6,21]}),(7,{ keep:=[1,4,5,6]}),(8,{ keep:=[1,3,4]}),(9,{ keep:=[2]})]),
(58,[(0,{ keep:=[1]}),(1,{ keep:=[1,5]}),(2,{ keep:=[2]}),(3,{ keep:=[2]})]),
(59,[(0,{ keep:=[2,3,4]}),(1,{ keep:=[2,3,4,22]}),(2,{ keep:=[4]}),(3,{ keep:=[2,3,4,33]}),(4,{ keep:=[3,4,5]}),(5,{ keep:=[4,5,7]}),(6,{ keep:=[4,5,7,49]}),(7,{ keep:=[4,5,7]}),(8,{ keep:=[4]}),(9,{ keep:=[4,9,10]}),(10,{ keep:=[4,9,10,69]}),(11,{ keep:=[4],still:=[9,10]}),(12,{ keep:=[4,9,10,11]}),(13,{ keep:=[4,9,10,11,12]}),(14,{ keep:=[4,9,10,11,12,13],still:=[9,10]}),(15,{ keep:=[4,9,10,11,12,13,88]}),(16,{ keep:=[4,9,10,11,12,90]}),(17,{ keep:=[4,9,10,11,12]}),(18,{ keep:=[4,9,10,11,12]}),(19,{ keep:=[4,9,11,12,14]}),(20,{ keep:=[4,9,11,12,14,104]}),(21,{ keep:=[4,9,11,12,14]}),(22,{ keep:=[4,9,11,12,14]}),(23,{ keep:=[4]})]),
(60,[(0,{ keep:=[1]}),(1,{ keep:=[1,3]}),(2,{ keep:=[2]}),(3,{ keep:=[12]}),(4,{ keep:=[2]}),(5,{ keep:=[2]})]),
(61,[(0,{ keep:=[0,2]}),(1,{ keep:=[0,2,3]}),(2,{ keep:=[0,2,3,7]}),(3,{ keep:=[0,2,3]}),(4,{ keep:=[2]})]),
(62,[(0,{ keep:=[0,1,2,6]}),(1,{ keep:=[0,1,2,6,7,8]}),(2,{ keep:=[0,1,2,6,7,8,13]}),(3,{ keep:=[0,1,2,6,8]}),(4,{ keep:=[0,1,2,6,7,8]}),(5,{ keep:=[0,1,2,6,7,8]}),(6,{ keep:=[0,1,2,6]}),(7,{ keep:=[0,1,2,6,30]}),(8,{ keep:=[0,1,2,6,7,8]}),(9,{ keep:=[0,1,2,6,7,8,35]}),(10,{ keep:=[0,1,2,6,8]}),(11,{ keep:=[0,1,2,6,7,8]}),(12,{ keep:=[0,1,2,6,7,8]}),(13,{ keep:=[0,1,2,6,7,9]}),(14,{ keep:=[0,1,2,6,7,9,54]}),(15,{ keep:=[0,1,2,6]}),(16,{ keep:=[0,1,2,6]})]),
(63,[(0,{ keep:=[1]}),(1,{ keep:=[1,5]}),(2,{ keep:=[2]}),(3,{ keep:=[2]})]),
(64,[(0,{ keep:=[1]}),(1,{ keep:=[1,3]}),(2,{ keep:=[2]}),(3,{ keep:=[12]}),(4,{ keep:=[2]}),(5,{ keep:=[2]})]),
(65,[(0,{ keep:=[2,3,4]}),(1,{ keep:=[2,4,5]}),(2,{ keep:=[4,5,9,10]}),(3,{ keep:=[4,5,9,10,11]}),(4,{ keep:=[4,5,7,9,10]}),(5,{ keep:=[4,5,9,10]}),(6,{ keep:=[4,5,9,10]}),(7,{ keep:=[4]})]),
(66,[(0,{ keep:=[0,2]}),(1,{ keep:=[0,2,4]}),(2,{ keep:=[2]}),(3,{ keep:=[2]})]),
(67,[(0,{ keep:=[2,3,4]}),(1,{ keep:=[2,3,4,5]}),(2,{ keep:=[2,3,4,5,12,13]}),(3,{ keep:=[2,3,4,5,12,13,14]}),(4,{ keep:=[2,3,4,5,6,7,12,13]}),(5,{ keep:=[2,3,4,5,6,7,12,13,18,19]}),(6,{ keep:=[2,3,4,5,6,7,12,13,18,19,20]}),(7,{ keep:=[2,3,4,5,6,7,8,9,12,13,18,19]}),(8,{ keep:=[2,3,4,5,6,7,8,9,12,13,18,19,30]}),(9,{ keep:=[2,3,4,5,6,7,8,9,10,12,13,18,19]}),(10,{ keep:=[2,3,4,5,6,7,12,13,18,19]}),(11,{ keep:=[2,3,4,5,6,7,12,13,18,19]}),(12,{ keep:=[2,3,4,5,12,13]}),(13,{ keep:=[4]})]),
(68,[(0,{ keep:=[0,2]}),(1,{ keep:=[0,2,3]}),(2,{ keep:=[2,4]}),(3,{ keep:=[2]})]),
(69,[(0,{ keep:=[0,1,2,6]}),(1,{ keep:=[6]})]),
(70,[(0,{ keep:=[0,11,12]}),(1,{ keep:=[0,11,12,13]}),(2,{ keep:=[0,3,4,11,12]}),(3,{ keep:=[0,11,12,20]}),(4,{ keep:=[0,11,12]})]),
(71,[(0,{ keep:=[1]}),(1,{ keep:=[1,9]}),(2,{ keep:=[2,3]}),(3,{ keep:=[4]}),(4,{ keep:=[2,3]})]),
(72,[(0,{ keep:=[0]}),(1,{ keep:=[0,3]}),(2,{ keep:=[0,3,4]}),(3,{ keep:=[0,3,4,14]}),(4,{ keep:=[0,3,4]}),(5,{ keep:=[0,3,4,5]}),(6,{ keep:=[0,3,4]}),(7,{ keep:=[2]})]),
(73,[(0,{ keep:=[0,1,4]}),(1,{ keep:=[0,4,5]}),(2,{ keep:=[4]})]),
(74,[(0,{ keep:=[0,1]}),(1,{ keep:=[0,1,12]}),(2,{ keep:=[0,1]}),(3,{ keep:=[0,1,5]}),(4,{ keep:=[0,1,5,6]}),(5,{ keep:=[0,1,5,6,7]}),(6,{ keep:=[0,1,5,6,7,22]}),(7,{ keep:=[0,1,5,6,7]}),(8,{ keep:=[0,1,5,6,7]}),(9,{ keep:=[0,1,5,6,7,34]}),(10,{ keep:=[0,1,5,6,7]}),(11,{ keep:=[0,1,5,6,7]}),(12,{ keep:=[0,1,5,6,7]}),(13,{ keep:=[5]}),(14,{ keep:=[4]})]),
(75,[(0,{ keep:=[0]}),(1,{ keep:=[0,4]}),(2,{ keep:=[0,4,10]}),(3,{ keep:=[0,4]}),(4,{ keep:=[0,4]}),(5,{ keep:=[0,4,5]}),(6,{ keep:=[0,4,5,21]}),(7,{ keep:=[0,4,5]}),(8,{ keep:=[0,4,5,6]}),(9,{ keep:=[0,4,5,6,27]}),(10,{ keep:=[0,4,5,6]}),(11,{ keep:=[0,4,5,6]}),(12,{ keep:=[0,4,5,6,41]}),(13,{ keep:=[0,4,5,6]}),(14,{ keep:=[2,3]})]),
(76,[(0,{ keep:=[0,1]}),(1,{ keep:=[0,1,10]}),(2,{ keep:=[15]}),(3,{ keep:=[4]}),(4,{ keep:=[4]}),(5,{ keep:=[0,1,5]}),(6,{ keep:=[0,1,5,20]}),(7,{ keep:=[0,1,5]}),(8,{ keep:=[0,1,5,31]}),(9,{ keep:=[40]}),(10,{ keep:=[4]}),(11,{ keep:=[4]}),(12,{ keep:=[4]})]),
(77,[(0,{ keep:=[0,1]}),(1,{ keep:=[0,1,5]}),(2,{ keep:=[0,1,5,6]}),(3,{ keep:=[0,1,5,6,7]}),(4,{ keep:=[0,1,5,6,7,15]}),(5,{ keep:=[0,1,5,6,7]}),(6,{ keep:=[0,1,5,7,8]}),(7,{ keep:=[0,1,5,7,8,27]}),(8,{ keep:=[0,1,5,7,8]}),(9,{ keep:=[0,1,5,6,7,8]}),(10,{ keep:=[0,1,5,6,7,8,35]}),(11,{ keep:=[0,1,5,7,8]}),(12,{ keep:=[0,1,5,6,7,8]}),(13,{ keep:=[0,1,5,6,7]}),(14,{ keep:=[4]})]),
(78,[(0,{ keep:=[0,1]}),(1,{ keep:=[0,1,5]}),(2,{ keep:=[0,5,6]}),(3,{ keep:=[0,5,6,7]}),(4,{ keep:=[0,5,6,7,16]}),(5,{ keep:=[0,5,6,7]}),(6,{ keep:=[0,5,6,7]}),(7,{ keep:=[0,5,6,7]}),(8,{ keep:=[0,5,6,7]}),(9,{ keep:=[5]}),(10,{ keep:=[4]})]),
(79,[(0,{ keep:=[0,1,2,3,8]}),(1,{ keep:=[0,1,2,3,8,14]}),(2,{ keep:=[0,1,2,3,8]}),(3,{ keep:=[0,1,2,3,8,9]}),(4,{ keep:=[0,1,2,3,8,9,34]}),(5,{ keep:=[0,1,2,3,8,9]}),(6,{ keep:=[0,1,2,3,8,9],perm:=true,take:=true})]),
(80,[(0,{ keep:=[0,1,2,3,4,28]}),(1,{ keep:=[0,1,3,4,10]}),(2,{ keep:=[0,1,4,10,11]}),(3,{ keep:=[0,1,4,10,11,33]}),(4,{ keep:=[0,1,4,10,11,12]}),(5,{ keep:=[0,1,4,10,11,12,50]}),(6,{ keep:=[0,1,4,10,11]}),(7,{ keep:=[0,1,4,10,11]}),(8,{ keep:=[0,10,13]}),(9,{ keep:=[0,10,13,58]}),(10,{ keep:=[0,10,13]}),(11,{ keep:=[0,10,13],perm:=true,take:=true}),(12,{ keep:=[0,1,2,3,4,80]}),(13,{ keep:=[0,2,4,14]}),(14,{ keep:=[0,2,4,14,15]}),(15,{ keep:=[0,2,4,14,15,85]}),(16,{ keep:=[0,2,4,14,15,16]}),(17,{ keep:=[0,2,4,14,15,16,103]}),(18,{ keep:=[0,2,4,14,15]}),(19,{ keep:=[0,2,4,14,15]}),(20,{ keep:=[0,14,17]}),(21,{ keep:=[0,14,17,110]}),(22,{ keep:=[0,14,17]}),(23,{ keep:=[0,14,17],perm:=true,take:=true}),(24,{ keep:=[0,1,2,3,4,18]}),(25,{ keep:=[0,1,2,3,4,18,19]}),(26,{ keep:=[0,1,2,3,4,18,19]}),(27,{ keep:=[0,1,2,3,4,18,19,140]}),(28,{ keep:=[0,1,2,3,4,18,19,20]}),(29,{ keep:=[0,1,2,3,4,18,19,20,21]}),(30,{ keep:=[0,1,2,3,4,18,19,20]}),(31,{ keep:=[0,1,2,3,4,18,19,20,21]}),(32,{ keep:=[0,1,2,3,4,18,19,20,21,22]}),(33,{ keep:=[0,1,2,3,4,18,19,20,21,22,151]}),(34,{ keep:=[0,1,2,3,4,18,19,20,21,22,23]}),(35,{ keep:=[0,1,2,3,4,18,19,20,21,22,23,171]}),(36,{ keep:=[0,1,2,3,4,18,19,20,21,22]}),(37,{ keep:=[0,1,2,3,4,18,19,20,21,22]}),(38,{ keep:=[0,1,2,3,4,18,20,24]}),(39,{ keep:=[0,1,2,3,4,18,20,24,185]}),(40,{ keep:=[0,1,3,4,18,20,24]}),(41,{ keep:=[0,1,3,4,18,20,24,199]}),(42,{ keep:=[0,3,4,18,24]}),(43,{ keep:=[0,3,4,18,24,213]}),(44,{ keep:=[]})]),
(81,[(0,{ keep:=[2,3,4]}),(1,{ keep:=[2,3,4,18]}),(2,{ keep:=[4]}),(3,{ keep:=[4,5,6]}),(4,{ keep:=[4,5,6,38]}),(5,{ keep:=[4,6,8]}),(6,{ keep:=[4,5,6]}),(7,{ keep:=[4,5,6,49]}),(8,{ keep:=[4]}),(9,{ keep:=[4,9,10]}),(10,{ keep:=[4,9,10,57]}),(11,{ keep:=[4,9,10]}),(12,{ keep:=[4]})])]
def Ua:List (Nat×List (Nat×eE)):=[
(82,[(0,{ keep:=[0]}),(1,{ keep:=[2]})]),
(83,[(0,{ keep:=[0,1,4]}),(1,{ keep:=[1,4,5]}),(2,{ keep:=[4]})]),
(84,[(0,{ keep:=[2,3,4]}),(1,{ keep:=[2,3,4,14]}),(2,{ keep:=[4]}),(3,{ keep:=[2,3,4,5,6]}),(4,{ keep:=[2,3,4,5,6,22]}),(5,{ keep:=[4]}),(6,{ keep:=[2,3,4,5,6,34]}),(7,{ keep:=[4]}),(8,{ keep:=[4]})]),
(85,[(0,{ keep:=[2,3,4]}),(1,{ keep:=[2,3,4,12]}),(2,{ keep:=[4]}),(3,{ keep:=[4]})]),
(86,[(0,{ keep:=[2,3,4]}),(1,{ keep:=[2,3,4,5]}),(2,{ keep:=[2,3,4,5,12]}),(3,{ keep:=[2,3,4,5]}),(4,{ keep:=[2,3,4,5,17]}),(5,{ keep:=[4]}),(6,{ keep:=[2,3,4,5,21]}),(7,{ keep:=[2,3,4,5,21,22]}),(8,{ keep:=[2,3,4,5,6,21]}),(9,{ keep:=[2,3,4,5,21]}),(10,{ keep:=[2,3,4,5,21]}),(11,{ keep:=[4]})]),
(87,[(0,{ keep:=[0,1,2,3,4,10]}),(1,{ keep:=[1,2,3,4,10,11]}),(2,{ keep:=[4,10,11,21]}),(3,{ keep:=[4,10,11,21,23]}),(4,{ keep:=[4,10,11,12,13,21]}),(5,{ keep:=[4,10,11,21]}),(6,{ keep:=[10,11],perm:=true}),(7,{ keep:=[10]})]),
(88,[(0,{ keep:=[1]}),(1,{ keep:=[1,14]}),(2,{ keep:=[2,3]}),(3,{ keep:=[1,4]}),(4,{ keep:=[1,4,5]}),(5,{ keep:=[1,4,5,19]}),(6,{ keep:=[1,4,5]}),(7,{ keep:=[1,4,5]}),(8,{ keep:=[1,4,30]}),(9,{ keep:=[2,3]}),(10,{ keep:=[4,42]}),(11,{ keep:=[2,3]}),(12,{ keep:=[2,3]})]),
(89,[(0,{ keep:=[0]}),(1,{ keep:=[0,3]}),(2,{ keep:=[0,3,4]}),(3,{ keep:=[0,3,4,12]}),(4,{ keep:=[0,3,4]}),(5,{ keep:=[0,3,4]}),(6,{ keep:=[3,40]}),(7,{ keep:=[3]}),(8,{ keep:=[2],still:=[3]})]),
(90,[(0,{ keep:=[0]}),(1,{ keep:=[0,14]}),(2,{ keep:=[0]}),(3,{ keep:=[2]})]),
(91,[(0,{ keep:=[0,2,3,4,10]}),(1,{ keep:=[0,2,4,10,11]}),(2,{ keep:=[0,2,4,10,11,20]}),(3,{ keep:=[0,2,4,10,11,23]}),(4,{ keep:=[0,2,4,10,11]}),(5,{ keep:=[0,2,4,10,11]}),(6,{ keep:=[0,2,4,10,11]}),(7,{ keep:=[0,2,4,10,11]}),(8,{ keep:=[]})]),
(92,[(0,{ keep:=[0]}),(1,{ keep:=[0,3]}),(2,{ keep:=[0,3,12,13]}),(3,{ keep:=[0,3,12,13,14]}),(4,{ keep:=[0,3,4,12,13]}),(5,{ keep:=[0,3,4,5,12,13]}),(6,{ keep:=[0,3,12,13]}),(7,{ keep:=[0,3,12,13]}),(8,{ keep:=[2],still:=[3]})]),
(93,[(0,{ keep:=[0,1]}),(1,{ keep:=[0,1,19]}),(2,{ keep:=[4,5]}),(3,{ keep:=[0,1,23]}),(4,{ keep:=[6,7]}),(5,{ keep:=[4,5]}),(6,{ keep:=[0,1,8]}),(7,{ keep:=[0,8,9]}),(8,{ keep:=[8,9,10]}),(9,{ keep:=[8,9,10,11]}),(10,{ keep:=[8,9,10,11,12]}),(11,{ keep:=[8,9,10,11,12,13]}),(12,{ keep:=[8,9,10,11,12,13,63]}),(13,{ keep:=[8,9,10,11,12,13]}),(14,{ keep:=[8,9,10,11,12,13]}),(15,{ keep:=[8,10,12,14]}),(16,{ keep:=[8,10,12,14,82,83]}),(17,{ keep:=[8,10,12,14,82,83,84]}),(18,{ keep:=[8,10,12,14,15,82,83]}),(19,{ keep:=[8,10,12,14,82,83]}),(20,{ keep:=[8,10,12,14,82,83]}),(21,{ keep:=[4,5],still:=[12,14]})]),
(94,[(0,{ keep:=[0]}),(1,{ keep:=[0,3]}),(2,{ keep:=[0,3,4]}),(3,{ keep:=[0,3,4,9]}),(4,{ keep:=[0,3,4]}),(5,{ keep:=[0,3,4]}),(6,{ keep:=[2]})]),
(95,[(0,{ keep:=[0]}),(1,{ keep:=[0,14]}),(2,{ keep:=[0]}),(3,{ keep:=[2]})]),
(96,[(0,{ keep:=[0]}),(1,{ keep:=[0,3]}),(2,{ keep:=[0,3,4]}),(3,{ keep:=[0,3,4,13]}),(4,{ keep:=[0,3,4]}),(5,{ keep:=[0,3,4],still:=[3]}),(6,{ keep:=[2],still:=[3]})]),
(97,[(0,{ keep:=[0,1]}),(1,{ keep:=[0,1,14]}),(2,{ keep:=[0,1]}),(3,{ keep:=[0,1,5]}),(4,{ keep:=[0,1,5,6]}),(5,{ keep:=[0,1,5,6,21,22,23]}),(6,{ keep:=[0,1,5,6,21,22,23,24]}),(7,{ keep:=[0,1,5,6,7,8,21,22,23]}),(8,{ keep:=[0,1,5,6,7,8,9,21,22,23]}),(9,{ keep:=[0,1,5,6,7,8,9,21,22,23,31]}),(10,{ keep:=[0,1,5,6,7,8,9,21,22,23]}),(11,{ keep:=[0,1,5,6,21,22,23]}),(12,{ keep:=[0,1,5,6,21,22,23]}),(13,{ keep:=[5]}),(14,{ keep:=[4],still:=[5]})]),
(98,[(0,{ keep:=[0,1]}),(1,{ keep:=[0,1,10]}),(2,{ keep:=[4]}),(3,{ keep:=[0,1,5]}),(4,{ keep:=[0,1,5,20]}),(5,{ keep:=[0,1,5]}),(6,{ keep:=[0,1,5,23]}),(7,{ keep:=[4]}),(8,{ keep:=[0,1,5,33]}),(9,{ keep:=[4]}),(10,{ keep:=[4]})]),
(99,[(0,{ keep:=[0,1]}),(1,{ keep:=[0,1,5]}),(2,{ keep:=[0,1,5,6]}),(3,{ keep:=[1,5,6,13,14,15]}),(4,{ keep:=[1,5,6,13,14,15,16]}),(5,{ keep:=[1,5,6,7,8,13,14,15]}),(6,{ keep:=[1,5,6,7,8,9,13,14,15]}),(7,{ keep:=[1,5,6,7,8,9,13,14,15,23]}),(8,{ keep:=[1,5,6,7,8,9,13,14,15]}),(9,{ keep:=[1,5,6,13,14,15]}),(10,{ keep:=[1,5,6,13,14,15]}),(11,{ keep:=[4],still:=[5]})]),
(100,[(0,{ keep:=[0,1]}),(1,{ keep:=[0,1,5]}),(2,{ keep:=[0,1,5,6]}),(3,{ keep:=[1,5,6,20,21,22]}),(4,{ keep:=[1,5,6,20,21,22,23]}),(5,{ keep:=[1,5,6,7,8,20,21,22]}),(6,{ keep:=[1,5,6,7,8,20,21,22,27,28,29]}),(7,{ keep:=[1,5,6,7,8,20,21,22,27,28,29,30]}),(8,{ keep:=[1,5,6,7,8,9,10,20,21,22,27,28,29]}),(9,{ keep:=[1,5,6,7,8,20,21,22,27,28,29]}),(10,{ keep:=[1,5,6,7,8,20,21,22,27,28,29]}),(11,{ keep:=[1,5,6,20,21,22]}),(12,{ keep:=[4],still:=[5]})]),
(101,[(0,{ keep:=[2,3,4]}),(1,{ keep:=[4,5]}),(2,{ keep:=[4]})]),
(102,[(0,{ keep:=[2,3,4]}),(1,{ keep:=[2,3,4,14]}),(2,{ keep:=[4]}),(3,{ keep:=[2,3,4,5]}),(4,{ keep:=[2,3,4,5,16]}),(5,{ keep:=[2,3,4,5,16,17]}),(6,{ keep:=[2,3,4,5,6,16]}),(7,{ keep:=[2,3,4,5,16]}),(8,{ keep:=[2,3,4,5,16]}),(9,{ keep:=[4]})]),
(103,[(0,{ keep:=[0,2]}),(1,{ keep:=[0,2,3]}),(2,{ keep:=[2,3,5]}),(3,{ keep:=[2,3,5,6]}),(4,{ keep:=[2,3]}),(5,{ keep:=[2,3,5,11]}),(6,{ keep:=[2,3]}),(7,{ keep:=[2,3,16]}),(8,{ keep:=[2,3]}),(9,{ keep:=[2]})]),
(104,[(0,{ keep:=[2,3,4]}),(1,{ keep:=[2,3,4,11]}),(2,{ keep:=[4,5]}),(3,{ keep:=[2,3,4,21]}),(4,{ keep:=[4,5]}),(5,{ keep:=[2,3,4,6]}),(6,{ keep:=[2,4,6,7]}),(7,{ keep:=[2,4,6,7,8]}),(8,{ keep:=[2,4,6,8,9]}),(9,{ keep:=[2,4,6,8,10]}),(10,{ keep:=[4,5]})]),
(105,[(0,{ keep:=[0,1,2,3,10]}),(1,{ keep:=[0,1,2,3,10,13]}),(2,{ keep:=[0,1,2,3,10]}),(3,{ keep:=[0,1,2,3,10],perm:=true,take:=true})]),
(106,[(0,{ keep:=[0,1]}),(1,{ keep:=[0,1,6]}),(2,{ keep:=[0,1,6,7]}),(3,{ keep:=[0,1,6,7,8]}),(4,{ keep:=[0,1,6,7,8,16]}),(5,{ keep:=[0,1,6,7,8]}),(6,{ keep:=[0,1,6,7,8]}),(7,{ keep:=[4,5],still:=[6]})]),
(107,[(0,{ keep:=[0]}),(1,{ keep:=[2]})]),
(108,[(0,{ keep:=[0,1]}),(1,{ keep:=[0,1,5]}),(2,{ keep:=[1,5,12,13,14]}),(3,{ keep:=[1,5,12,13,14,15]}),(4,{ keep:=[1,5,6,7,12,13,14]}),(5,{ keep:=[1,5,6,7,12,13,14]}),(6,{ keep:=[1,5,12,13,14]}),(7,{ keep:=[1,5,12,13,14]}),(8,{ keep:=[4]})]),
(109,[(0,{ keep:=[0,1]}),(1,{ keep:=[0,1,5]}),(2,{ keep:=[0,1,5,6]}),(3,{ keep:=[0,1,5,7,8]}),(4,{ keep:=[0,1,5,7,8,68]}),(5,{ keep:=[0,1,5,7,8]}),(6,{ keep:=[0,1,5,7,8]}),(7,{ keep:=[0,1,5,7,8,80]}),(8,{ keep:=[0,1,5,7,9,10]}),(9,{ keep:=[0,1,5,7,9,10,81,82,83]}),(10,{ keep:=[0,1,5,7,9,10,81,82,83,84]}),(11,{ keep:=[0,1,5,7,9,10,11,12,81,82,83]}),(12,{ keep:=[0,1,5,7,9,10,11,81,82,83]}),(13,{ keep:=[0,1,5,7,9,10,81,82,83]}),(14,{ keep:=[0,1,5,7,9,10,81,82,83]}),(15,{ keep:=[0,1,5,7,9,10,81,82,83]}),(16,{ keep:=[0,1,5,7,10]}),(17,{ keep:=[0,1,5,7,126]}),(18,{ keep:=[0,1,5,7]}),(19,{ keep:=[0,1,5,7,13]}),(20,{ keep:=[0,5,7,13,129,130,131]}),(21,{ keep:=[0,5,7,13,129,130,131,132]}),(22,{ keep:=[0,5,7,13,14,15,129,130,131]}),(23,{ keep:=[0,5,7,13,129,130,131]}),(24,{ keep:=[0,5,7,13,129,130,131]}),(25,{ keep:=[7]}),(26,{ keep:=[4]})]),
(110,[(0,{ keep:=[0,1]}),(1,{ keep:=[0,1,12]}),(2,{ keep:=[4]}),(3,{ keep:=[0,1,21]}),(4,{ keep:=[4]}),(5,{ keep:=[0,1,5,6]}),(6,{ keep:=[0,1,5,31]}),(7,{ keep:=[4]}),(8,{ keep:=[4]})]),
(111,[(0,{ keep:=[0,1,2]}),(1,{ keep:=[8]}),(2,{ keep:=[6,8]}),(3,{ keep:=[6,7]})]),
(112,[(0,{ keep:=[0,1,2]}),(1,{ keep:=[0,1,6]}),(2,{ keep:=[6,7]})]),
(113,[(0,{ keep:=[0,1,8,9]}),(1,{ keep:=[0,1,8,9]}),(2,{ keep:=[0,1,8,10]}),(3,{ keep:=[0,1,10]}),(4,{ keep:=[0,10,11]}),(5,{ keep:=[0,10,11,48]}),(6,{ keep:=[0,10,11]}),(7,{ keep:=[0,10,11]})]),
(114,[(0,{ keep:=[2,3,4,5]}),(1,{ keep:=[2,3,4,5,9]}),(2,{ keep:=[4,5,6]}),(3,{ keep:=[2,3,4,5,20]}),(4,{ keep:=[4,5,6]}),(5,{ keep:=[2,3,4,5,7,8]}),(6,{ keep:=[2,3,4,5]}),(7,{ keep:=[3,4,5,56]}),(8,{ keep:=[4,5]}),(9,{ keep:=[4,5,6],perm:=true})]),
(115,[(0,{ keep:=[1,2,4]}),(1,{ keep:=[1,2,4,6]}),(2,{ keep:=[1,2,4,6,7]}),(3,{ keep:=[1,2,4,5,6]}),(4,{ keep:=[1,2,4,5,6,12]}),(5,{ keep:=[1,2,4,6]}),(6,{ keep:=[1,2,4,6]}),(7,{ keep:=[4]})]),
(116,[(0,{ keep:=[0,1,2]}),(1,{ keep:=[0,1,2,15]}),(2,{ keep:=[0,1,2]}),(3,{ keep:=[2,8]}),(4,{ keep:=[6,7]})]),
(117,[(0,{ keep:=[0,2]}),(1,{ keep:=[0,2,4]}),(2,{ keep:=[0]}),(3,{ keep:=[0,2]}),(4,{ keep:=[0,2,8]}),(5,{ keep:=[0,2]}),(6,{ keep:=[0,2]}),(7,{ keep:=[2]})]),
(118,[(0,{ keep:=[0,1]}),(1,{ keep:=[0,1,13]}),(2,{ keep:=[0,1]}),(3,{ keep:=[4]})]),
(119,[(0,{ keep:=[0,2]}),(1,{ keep:=[0,2,4]}),(2,{ keep:=[0,2,4,9]}),(3,{ keep:=[0,2,4]}),(4,{ keep:=[0,2,4,5]}),(5,{ keep:=[0,2,4,5,16]}),(6,{ keep:=[2,3]}),(7,{ keep:=[0,2,4]}),(8,{ keep:=[2,3]})]),
(120,[(0,{ keep:=[0,1]}),(1,{ keep:=[0,1,7]}),(2,{ keep:=[0,1,12]}),(3,{ keep:=[0,1]}),(4,{ keep:=[4]})]),
(121,[(0,{ keep:=[0,1]}),(1,{ keep:=[0,1,9]}),(2,{ keep:=[0,1,5,6]}),(3,{ keep:=[0,1,6,18]}),(4,{ keep:=[0,1]}),(5,{ keep:=[4]})])]
def Ub:List (Nat×List (Nat×eE)):=[
(122,[(0,{ keep:=[0,1]}),(1,{ keep:=[6]}),(2,{ keep:=[4,5]})]),
(123,[(0,{ keep:=[2,3,4]}),(1,{ keep:=[2,3,4,12]}),(2,{ keep:=[4]}),(3,{ keep:=[4]})]),
(124,[(0,{ keep:=[0,1]}),(1,{ keep:=[4]})]),
(125,[(0,{ keep:=[0]}),(1,{ keep:=[0,10]}),(2,{ keep:=[2,3]}),(3,{ keep:=[2,3]})]),
(126,[(0,{ keep:=[0,1]}),(1,{ keep:=[4]})]),
(127,[(0,{ keep:=[0]}),(1,{ keep:=[0,4]}),(2,{ keep:=[0,4,16]}),(3,{ keep:=[2,3]}),(4,{ keep:=[0,4,5]}),(5,{ keep:=[0,4,5,6]}),(6,{ keep:=[0,4,5,6,23]}),(7,{ keep:=[0,7]}),(8,{ keep:=[2,3]}),(9,{ keep:=[0,4,5,6,8]}),(10,{ keep:=[0,4,5,8,9]}),(11,{ keep:=[0,5,8,9,45]}),(12,{ keep:=[2,3]}),(13,{ keep:=[0,5,8,9,10]}),(14,{ keep:=[0,5,8,10,57]}),(15,{ keep:=[2,3]}),(16,{ keep:=[0,5,8,10,59]}),(17,{ keep:=[2,3]}),(18,{ keep:=[0,5,8,10,11]}),(19,{ keep:=[0,5,8,10,11,75]}),(20,{ keep:=[2,3]}),(21,{ keep:=[0,5,10,11,77]}),(22,{ keep:=[2,3]}),(23,{ keep:=[5,10,11,12]}),(24,{ keep:=[5,10,11,12,98]}),(25,{ keep:=[2,3]}),(26,{ keep:=[2,3]})]),
(128,[(0,{ keep:=[0,1,4]}),(1,{ keep:=[0,4,7]}),(2,{ keep:=[0,4,7,8]}),(3,{ keep:=[0,4,7,8,9]}),(4,{ keep:=[0,4,7,8,9]}),(5,{ keep:=[0,4,7,8,9,26]}),(6,{ keep:=[0,4,7,8,9,33]}),(7,{ keep:=[0,4,7,8,9,11]}),(8,{ keep:=[0,4,7,8,9,11,43]}),(9,{ keep:=[4]}),(10,{ keep:=[0,4,7,8,9]}),(11,{ keep:=[0,4,7,8,9,12]}),(12,{ keep:=[0,4,7,8,9,12,51]}),(13,{ keep:=[0,4,7,8,9,12]}),(14,{ keep:=[0,4,7,8,9,12,64]}),(15,{ keep:=[4]}),(16,{ keep:=[0,4,7,8,9,10]}),(17,{ keep:=[0,4,7,8,9,10]}),(18,{ keep:=[0,4,7,8,9,98]}),(19,{ keep:=[4]}),(20,{ keep:=[8,9,13]}),(21,{ keep:=[8,9,13,108]}),(22,{ keep:=[4]}),(23,{ keep:=[0,7,8,9,14]}),(24,{ keep:=[0,7,8,9,14,15]}),(25,{ keep:=[0,7,8,9,14,15,124]}),(26,{ keep:=[0,7,8,9,14,15]}),(27,{ keep:=[0,7,8,9,14,15,139]}),(28,{ keep:=[0,7,8,9,14,15,16]}),(29,{ keep:=[0,7,8,9,14,15,16,143]}),(30,{ keep:=[0,7,8,9,14,15,16]}),(31,{ keep:=[0,7,8,9,14,15,16,156]}),(32,{ keep:=[4]}),(33,{ keep:=[4]}),(34,{ keep:=[0,1,4,160]}),(35,{ keep:=[4]}),(36,{ keep:=[0,1,4,171]}),(37,{ keep:=[175]}),(38,{ keep:=[175,176,177]}),(39,{ keep:=[5,6,175]}),(40,{ keep:=[5,175,181]}),(41,{ keep:=[4]}),(42,{ keep:=[4]}),(43,{ keep:=[0,1,4,183]}),(44,{ keep:=[4]})]),
(129,[(0,{ keep:=[0,1]}),(1,{ keep:=[4]})]),
(130,[(0,{ keep:=[0]}),(1,{ keep:=[0,3]}),(2,{ keep:=[2]}),(3,{ keep:=[10]}),(4,{ keep:=[2]}),(5,{ keep:=[2]})]),
(131,[(0,{ keep:=[0]}),(1,{ keep:=[2]})]),
(133,[(0,{ keep:=[0,1]}),(1,{ keep:=[4]})])]
def vD (f r:Nat):eE:=((look (T8++T9++Ua++Ub) f).bind (look · r)).getD { keep:=[]}
end Go.Proofs.YtibbgjafjhcemaaDoor.Cul
namespace Go.Proofs.YtibbgjafjhcemaaDoor.Cul
open Go Go.RowKit
def rV:Cl:={ fn:=fun _ _=>none}
theorem FW {P:Program}:aP P rV:=⟨fun f args r h=>by simp [rV] at h,fun f ms r cs' h=>by simp [rV] at h⟩
noncomputable def zj (f:Nat):Code:=(((P0.funcs[f]?).bind (·.body))).getD .skip
def Hh (cs:List PV):List (List PV):=[[.lit (.int .i64 0), .ag (cs.take 10)],[.lit (.int .i64 1), .ag ((cs.drop 10).take 10)],[.lit (.int .i64 2), .ag ((cs.drop 20).take 10)]]
theorem Pm (l:Nat) (a0 a1 a2 a3 a4 a5 a6 a7 a8 a9 b0 b1 b2 b3 b4 b5 b6 b7 b8 b9 c0 c1 c2 c3 c4 c5 c6 c7 c8 c9:PV):mF P0 rV (vD 70) (fun r=>r==3) l (fun i=>(Hh [a0,a1,a2,a3,a4,a5,a6,a7,a8,a9,b0,b1,b2,b3,b4,b5,b6,b7,b8,b9,c0,c1,c2,c3,c4,c5,c6,c7,c8,c9]).getD i []) 3 5 (zj 70) (.enter [yv l, .el [a0,a1,a2,a3,a4,a5,a6,a7,a8,a9,b0,b1,b2,b3,b4,b5,b6,b7,b8,b9,c0,c1,c2,c3,c4,c5,c6,c7,c8,c9]]) (some 0) (IS 3)=
 (false=false∧l=l∧0<3∧[PV.lit (.int .i64 0), .ag [a0,a1,a2,a3,a4,a5,a6,a7,a8,a9]]=[PV.lit (.int .i64 0), .ag [a0,a1,a2,a3,a4,a5,a6,a7,a8,a9]]∧
  (false=false∧l=l∧0+1<3∧[PV.lit (.int .i64 1), .ag [b0,b1,b2,b3,b4,b5,b6,b7,b8,b9]]=[PV.lit (.int .i64 1), .ag [b0,b1,b2,b3,b4,b5,b6,b7,b8,b9]]∧
   (false=false∧l=l∧0+1+1<3∧[PV.lit (.int .i64 2), .ag [c0,c1,c2,c3,c4,c5,c6,c7,c8,c9]]=[PV.lit (.int .i64 2), .ag [c0,c1,c2,c3,c4,c5,c6,c7,c8,c9]]∧(some 3=none∨some 3=some 3)∧((none:Option Nat)=none∨none=some 3))∧
   ((none:Option Nat)=none∨none=some 3))∧
  ((none:Option Nat)=none∨none=some 3)):=by kernel_rfl
theorem DI {α:Type} {n:Nat} {cs:List α} (h:cs.length=n+10):∃x0 x1 x2 x3 x4 x5 x6 x7 x8 x9 r,cs=x0::x1::x2::x3::x4::x5::x6::x7::x8::x9::r∧r.length=n:=by
 match cs,h with
 |x0::x1::x2::x3::x4::x5::x6::x7::x8::x9::r,h=>exact ⟨x0,x1,x2,x3,x4,x5,x6,x7,x8,x9,r,rfl,by simpa using h⟩
theorem O9 {α:Type} {cs:List α} (h:cs.length=30):∃a0 a1 a2 a3 a4 a5 a6 a7 a8 a9 b0 b1 b2 b3 b4 b5 b6 b7 b8 b9 c0 c1 c2 c3 c4 c5 c6 c7 c8 c9,cs=[a0,a1,a2,a3,a4,a5,a6,a7,a8,a9,b0,b1,b2,b3,b4,b5,b6,b7,b8,b9,c0,c1,c2,c3,c4,c5,c6,c7,c8,c9]:=by
 obtain ⟨a0,a1,a2,a3,a4,a5,a6,a7,a8,a9,r,hr,h⟩:=DI (n:=20) h
 obtain ⟨b0,b1,b2,b3,b4,b5,b6,b7,b8,b9,r2,iG,h⟩:=DI (n:=10) h
 obtain ⟨c0,c1,c2,c3,c4,c5,c6,c7,c8,c9,r3,Xc,h⟩:=DI (n:=0) h
 have h0:=List.length_eq_zero_iff.1 h
 exact ⟨a0,a1,a2,a3,a4,a5,a6,a7,a8,a9,b0,b1,b2,b3,b4,b5,b6,b7,b8,b9,c0,c1,c2,c3,c4,c5,c6,c7,c8,c9,by rw [hr,iG,Xc,h0]⟩
set_option maxRecDepth 100000 in
theorem NX (l:Nat) (cs:List PV) (h:cs.length=30):mF P0 rV (vD 70) (fun r=>r==3) l (fun i=>(Hh cs).getD i []) 3 5 (zj 70) (.enter [yv l, .el cs]) (some 0) (IS 3):=by
 obtain ⟨a0,a1,a2,a3,a4,a5,a6,a7,a8,a9,b0,b1,b2,b3,b4,b5,b6,b7,b8,b9,c0,c1,c2,c3,c4,c5,c6,c7,c8,c9,rfl⟩:=O9 h
 rw [Pm]
 simp
def M7:List PV→Option (Nat×List (List PV))
 |[.el cs]=>if cs.length=30∧cs.all kA=true then some (2,Hh cs) else none
 |_=>none
def M8 (f:Nat) (caps:List PV):Option (Nat×List (List PV)):=if f=70 then M7 caps else none
theorem tW {cs:List PV} (h:cs.all kA=true) (n:Nat):(cs.take n).all kA=true:=List.all_eq_true.2 fun x hx=>List.all_eq_true.1 h x (List.mem_of_mem_take hx)
theorem zb {cs:List PV} (h:cs.all kA=true) (n:Nat):(cs.drop n).all kA=true:=List.all_eq_true.2 fun x hx=>List.all_eq_true.1 h x (List.mem_of_mem_drop hx)
theorem AD:P0.follows .mixedOrders=true:=by kernel_rfl
set_option maxRecDepth 100000 in
theorem M9:oG P0 M8:=by
 intro f caps k xs h
 unfold M8 at h
 split at h
 · rename_i hf
   subst hf
   unfold M7 at h
   split at h
   · rename_i cs
     split at h
     · rename_i hc
       simp only [Option.some.injEq,Prod.mk.injEq] at h
       obtain ⟨rfl,rfl⟩:=h
       refine Br (P:=P0) FW AD (fn:=Go.Proofs.Tryd.f70) (c:=zj 70) (by kernel_rfl) (by kernel_rfl) (by kernel_rfl) (by kernel_rfl) (by kernel_rfl) (note:=vD 70) (yr:=fun r=>r==3) (fuel:=5) (k:=2) (caps:=[.el cs]) (xs:=Hh cs) ?_ fun l=>NX l cs hc.1
       intro x hx
       simp only [Hh,List.mem_cons,List.not_mem_nil,or_false] at hx
       rcases hx with rfl|rfl|rfl<;>simp only [List.length_cons,List.length_nil,List.all_cons,List.all_nil,jy,kA,iA,Bool.and_true,Bool.true_and,true_and]
       · exact tW hc.2 _
       · exact tW (zb hc.2 _) _
       · exact tW (zb hc.2 _) _
     · simp at h
   · simp at h
 · simp at h
end Go.Proofs.YtibbgjafjhcemaaDoor.Cul
namespace Go.Proofs.YtibbgjafjhcemaaDoor.Cul
open Go Go.RowKit
def F2:List Nat:=[128]
noncomputable def MD:jG:={ P:=P0,uw:=fun f=>if F2.contains f then some (fun _ _=>none) else none,note:=vD,iter:=M8}
def yM (ps:List Nat):Nat→List Func→Bool
 |_,[]=>true
 |n,fn::l=>(ps.contains n||ur fn)&&yM ps (n+1) l
theorem ya {ps:List Nat}:∀{l:List Func} {n:Nat},yM ps n l=true→∀(i:Nat) (fn:Func),l[i]? =some fn→ps.contains (n+i)=false→ur fn=true
 |[],n,_,i,fn,h,_=>by simp at h
 |f::l,n,h,i,fn,hi,hp=>by
  simp only [yM,Bool.and_eq_true,Bool.or_eq_true] at h
  cases i with
  |zero=>
   simp only [List.getElem?_cons_zero,Option.some.injEq] at hi
   subst hi
   rcases h.1 with h1|h1
   · rw [Nat.add_zero,h1] at hp;simp at hp
   · exact h1
  |succ i=>exact ya h.2 i fn (by simpa using hi) (by rw [←hp];congr 1;omega)
theorem X5:yM F2 0 P0.funcs.toList=true:=by kernel_rfl
theorem ah:qV MD where
 o4:=AD
 sO:=M9
 fns f fn hf hp:=by
  have hf':P0.funcs[f]? =some fn:=hf
  refine ya X5 f fn (by rw [Array.getElem?_toList];exact hf') ?_
  simp only [MD] at hp
  split at hp
  · simp at hp
  · rename_i h;simpa using h
 Jt f g hg call hC args r h:=by
  simp only [MD] at hg
  split at hg
  · simp only [Option.some.injEq] at hg;subst hg;simp at h
  · simp at hg
end Go.Proofs.YtibbgjafjhcemaaDoor.Cul
namespace Go.Proofs.YtibbgjafjhcemaaDoor.Cul
def val (b:Nat):List Nat→Nat
 |[]=>0
 |x::l=>x+b* val b l
def xG (b:Nat):Nat→Nat→List Nat
 |0,_=>[]
 |k+1,n=>if n=0 then [] else n%b::xG b k (n / b)
def dg (b n:Nat):List Nat:=xG b n n
theorem EI {b:Nat} (hb:2≤b):∀{k n:Nat},n≤k→∀m,n≤m→xG b k n=xG b m n
 |0,n,h,m,hm=>by
  have:n=0:=by omega
  subst this
  cases m<;>simp [xG]
 |k+1,n,h,m,hm=>by
  cases m with
  |zero=>have:n=0:=by omega
         subst this;simp [xG]
  |succ m=>
   simp only [xG]
   split
   · rfl
   · rename_i hn
     have:n / b<n:=Nat.div_lt_self (by omega) (by omega)
     rw [EI hb (by omega) m (by omega)]
theorem eB (b:Nat):dg b 0=[]:=rfl
theorem dK {b n:Nat} (hb:2≤b) (hn:0<n):dg b n=n%b::dg b (n / b):=by
 unfold dg
 cases n with
 |zero=>omega
 |succ k=>
  have:(k+1) / b<k+1:=Nat.div_lt_self (by omega) (by omega)
  simp only [xG,Nat.add_one_ne_zero,if_false]
  rw [EI hb (by omega) ((k+1) / b) (by omega)]
theorem ct {b:Nat} (hb:2≤b) (n:Nat):val b (dg b n)=n:=by
 induction n using Nat.strongRecOn with
 |_ n ih=>
  by_cases h:n=0
  · subst h;rfl
  · rw [dK hb (by omega),val,ih _ (Nat.div_lt_self (by omega) (by omega))]
    exact Nat.mod_add_div n b
def bB (b:Nat) (l:List Nat):Prop:=∀x∈l,x<b
theorem cD {b:Nat} (hb:2≤b) (n:Nat):bB b (dg b n):=by
 induction n using Nat.strongRecOn with
 |_ n ih=>
  by_cases h:n=0
  · subst h;simp [bB,eB]
  · rw [dK hb (by omega)]
    intro x hx
    rcases List.mem_cons.1 hx with rfl|hx
    · exact Nat.mod_lt _ (by omega)
    · exact ih _ (Nat.div_lt_self (by omega) (by omega)) x hx
theorem bB.tail {b x:Nat} {l:List Nat} (h:bB b (x::l)):bB b l:=fun y hy=>h y (List.mem_cons_of_mem _ hy)
theorem bB.head {b x:Nat} {l:List Nat} (h:bB b (x::l)):x<b:=h x List.mem_cons_self
theorem bB.app {b:Nat} {l m:List Nat} (h:bB b l) (k:bB b m):bB b (l++m):=fun x hx=>(List.mem_append.1 hx).elim (h x) (k x)
theorem bB.left {b:Nat} {l m:List Nat} (h:bB b (l++m)):bB b l:=fun x hx=>h x (List.mem_append_left _ hx)
theorem bB.right {b:Nat} {l m:List Nat} (h:bB b (l++m)):bB b m:=fun x hx=>h x (List.mem_append_right _ hx)
theorem jj {b:Nat}:∀(l m:List Nat),val b (l++m)=val b l+b^l.length* val b m
 |[],m=>by simp [val]
 |x::l,m=>by
  simp only [List.cons_append,val,jj l m,List.length_cons,Nat.pow_succ,Nat.mul_add]
  rw [←Nat.mul_assoc,Nat.mul_comm b (b^l.length),Nat.add_assoc]
theorem dc {b:Nat}:∀{l:List Nat},bB b l→val b l<b^l.length
 |[],_=>by simp [val]
 |x::l,h=>by
  have h1:=dc h.tail
  have h2:=h.head
  simp only [val,List.length_cons,Nat.pow_succ]
  have h3:b* (val b l+1)≤b* b^l.length:=Nat.mul_le_mul_left _ h1
  rw [Nat.mul_comm (b^l.length)]
  rw [Nat.mul_add] at h3
  omega
theorem val_inj {b:Nat}:∀{l m:List Nat},bB b l→bB b m→l.length=m.length→val b l=val b m→l=m
 |[],[],_,_,_,_=>rfl
 |[],_::_,_,_,h,_=>by simp at h
 |_::_,[],_,_,h,_=>by simp at h
 |x::l,y::m,h,k,e,v=>by
  simp only [val] at v
  have h1:=h.head
  have h2:=k.head
  have hx:x=y:=by
   have:=congrArg (· %b) v
   simpa [Nat.add_mul_mod_self_left,Nat.mod_eq_of_lt h1,Nat.mod_eq_of_lt h2] using this
  subst hx
  have:b* val b l=b* val b m:=by omega
  have:=Nat.eq_of_mul_eq_mul_left (by omega) this
  rw [val_inj h.tail k.tail (by simpa using e) this]
theorem lT {b n k:Nat} (hb:2≤b) (h:n<b^k):(dg b n).length≤k:=by
 induction k generalizing n with
 |zero=>have:n=0:=by simpa using h
        subst this;simp [eB]
 |succ k ih=>
  by_cases hn:n=0
  · subst hn;simp [eB]
  · rw [dK hb (by omega),List.length_cons]
    have:n / b<b^k:=Nat.div_lt_of_lt_mul (by rw [Nat.pow_succ] at h;rw [Nat.mul_comm];exact h)
    have:=ih this
    omega
theorem eG {b n:Nat} (hb:2≤b):n<b^(dg b n).length:=by
 have:=dc (cD hb n)
 rwa [ct hb] at this
theorem nX {b n:Nat} (hb:2≤b) (hn:0<n):b^((dg b n).length - 1)≤n:=by
 induction n using Nat.strongRecOn with
 |_ n ih=>
  rw [dK hb hn,List.length_cons,Nat.add_sub_cancel]
  by_cases h:n / b=0
  · rw [h,eB];simp;omega
  · have h1:=ih _ (Nat.div_lt_self hn (by omega)) (Nat.pos_of_ne_zero h)
    have h2:0<(dg b (n / b)).length:=by
     rw [dK hb (by omega)];simp
    have:b^(dg b (n / b)).length=b^((dg b (n / b)).length - 1)* b:=by
     rw [←Nat.pow_succ];congr 1;omega
    rw [this]
    calc b^((dg b (n / b)).length - 1)* b≤(n / b)* b:=Nat.mul_le_mul_right _ h1
     _≤n:=Nat.div_mul_le_self n b
theorem wR {b x:Nat} (hb:2≤b) (hx:x<b) (n:Nat) (h:0<x∨0<n):dg b (x+b* n)=x::dg b n:=by
 have hp:0<x+b* n:=by
  rcases h with h|h
  · omega
  · have:0<b* n:=Nat.mul_pos (by omega) h
    omega
 rw [dK hb hp,Nat.add_mul_mod_self_left,Nat.mod_eq_of_lt hx,Nat.add_mul_div_left _ _ (by omega),Nat.div_eq_of_lt hx,Nat.zero_add]
theorem BP {b:Nat} (hb:2≤b):∀{l:List Nat} {x:Nat},bB b (l++[x])→0<x→dg b (val b (l++[x]))=l++[x]
 |[],x,h,hx=>by
  have hd:=h x (by simp)
  have:=wR hb hd 0 (.inl hx)
  simpa [val,eB] using this
 |y::l,x,h,hx=>by
  have hd:y<b:=h y (by simp)
  have h1:bB b (l++[x]):=fun z hz=>h z (by simp at hz ⊢;exact .inr hz)
  have hv:0<val b (l++[x]):=by
   rw [jj]
   have:0<b^l.length* val b [x]:=Nat.mul_pos (Nat.pow_pos (by omega)) (by simp [val];exact hx)
   omega
  simp only [List.cons_append,val]
  rw [wR hb hd _ (.inr hv),BP hb h1 hx]
theorem su {b:Nat} (l:List Nat):val b (l++[0])=val b l:=by simp [jj,val]
theorem yA {b:Nat}:∀n,val b (List.replicate n 0)=0
 |0=>rfl
 |n+1=>by simp [List.replicate_succ,val,yA n]
theorem Dj {b:Nat} (hb:2≤b) {l:List Nat} (h:bB b l) (hl:l=[]∨∃m x,l=m++[x]∧0<x):dg b (val b l)=l:=by
 rcases hl with rfl|⟨m,x,rfl,hx⟩
 · rfl
 · exact BP hb h hx
theorem BN {b n:Nat} (hb:2≤b) (hn:0<n):∃m x,dg b n=m++[x]∧0<x∧x<b:=by
 have hl:dg b n≠[]:=by rw [dK hb hn];simp
 refine ⟨(dg b n).dropLast,(dg b n).getLast hl,(List.dropLast_concat_getLast hl).symm, ?_,cD hb n _ (List.getLast_mem hl)⟩
 have h1:=nX hb hn
 have h2:=ct hb n
 rw [←List.dropLast_concat_getLast hl,jj,List.length_dropLast] at h2
 have h3:val b (dg b n).dropLast<b^((dg b n).length - 1):=by
  have:=dc (b:=b) (l:=(dg b n).dropLast) (fun x hx=>cD hb n x ((List.dropLast_sublist _).subset hx))
  simpa using this
 rcases Nat.eq_zero_or_pos ((dg b n).getLast hl) with h|h
 · simp [h,val] at h2;omega
 · exact h
end Go.Proofs.YtibbgjafjhcemaaDoor.Cul
set_option maxRecDepth 100000
namespace Go.Proofs.YtibbgjafjhcemaaDoor.Cul
open Go Go.RowKit
def us (l:List Nat):List PV:=l.map ax
def nat (l:List Nat):PV:= .sl 1 l.length (us l)
def t0:Cl:=bQ []
theorem YZ (k n m:Nat) (cs ds:List PV) (x:Nat):ak MD t0 k 95 0 ⟨[(0, .pv (.sl 1 n cs))],[],[],[]⟩ [.c true, .a 11 [ax x], .c true, .t 19 m ds]=
 some ((Xt.normal,St.mk [(0,AV.pv (PV.sl 1 m ds))] [] [] []),[],[decide ((↑n:Int)>(0:Int))=true,az cs 1 (IntKind.i64.wrap ((↑n:Int) - (1:Int))) n [PV.lit (Value.int IntKind.u32 (↑x:Int))],((↑x:Int)==(0:Int))=true,(0:Int)≤(0:Int)∧(0:Int)≤IntKind.i64.wrap ((↑n:Int) - (1:Int))∧IntKind.i64.wrap ((↑n:Int) - (1:Int))≤(↑n:Int),(IntKind.i64.wrap ((↑n:Int) - (1:Int))).toNat - Int.toNat (0:Int)=m,de cs 0 (((IntKind.i64.wrap ((↑n:Int) - (1:Int))).toNat - Int.toNat (0:Int))* (1:Nat)) ds]):=by kernel_rfl
theorem Y0 (k n:Nat) (cs:List PV) (x:Nat):ak MD t0 k 95 0 ⟨[(0, .pv (.sl 1 n cs))],[],[],[]⟩ [.c true, .a 11 [ax x], .c false]=
 some ((Xt.exit 0,St.mk [(0,AV.pv (PV.sl 1 n cs)),(14,AV.pv (PV.lit (Value.bool false)))] [] [] []),[],[decide ((↑n:Int)>(0:Int))=true,az cs 1 (IntKind.i64.wrap ((↑n:Int) - (1:Int))) n [PV.lit (Value.int IntKind.u32 (↑x:Int))],((↑x:Int)==(0:Int))=false]):=by kernel_rfl
theorem Y3 (k n:Nat) (cs:List PV):ak MD t0 k 95 0 ⟨[(0, .pv (.sl 1 n cs))],[],[],[]⟩ [.c false]=
 some ((Xt.exit 0,St.mk [(0,AV.pv (PV.sl 1 n cs)),(14,AV.pv (PV.lit (Value.bool false)))] [] [] []),[],[decide ((↑n:Int)>(0:Int))=false]):=by kernel_rfl
theorem Pk (k n m:Nat) (cs ds:List PV):ay MD t0 k 95 [.sl 1 n cs] [.l (.exit 0) ⟨[(0, .pv (.sl 1 m ds)),(14, .pv (bv false))],[],[],[]⟩]=
 some (RV.mk (PV.sl 1 m ds) none,[aN MD t0 k (95:Nat) (0:Nat) (St.mk [(0,AV.pv (PV.sl 1 n cs))] [] [] []) (Xt.exit 0) (St.mk [(0,AV.pv (PV.sl 1 m ds)),(14,AV.pv (PV.lit (Value.bool false)))] [] [] [])]):=by kernel_rfl
theorem wrap64 {n:Int} (h1: -(2^63)≤n) (h2:n<2^63):IntKind.i64.wrap n=n:=by
 unfold IntKind.wrap IntKind.bits IntKind.signed
 simp only
 have e1:(2:Int)^64=18446744073709551616:=by decide
 have e2:(2:Int)^(64 - 1)=9223372036854775808:=by decide
 rw [e1,e2]
 split
 · rename_i h;simp only [Bool.true_and,decide_eq_true_eq] at h;omega
 · rename_i h;simp only [Bool.true_and,decide_eq_true_eq] at h;omega
theorem dn (l:List Nat):(us l).length=l.length:=by simp [us]
theorem NV {l:List Nat} {i x:Nat} (h:l[i]? =some x):row (us l) 1 i=[ax x]:=by
 have hi:i<l.length:=by
  rcases Nat.lt_or_ge i l.length with h'|h'
  · exact h'
  · simp [List.getElem?_eq_none h'] at h
 have:(us l)[i]? =some (ax x):=by simp [us,h]
 simp only [row,Nat.mul_one]
 rw [List.drop_eq_getElem_cons (by simpa [us] using hi),List.take_succ_cons,List.take_zero]
 congr 1
 simpa [List.getElem?_eq_getElem (show i<(us l).length by simpa [us] using hi)] using this
theorem eS {l:List Nat} {i x:Nat} {n:Int} (h:l[i]? =some x) (hn:n=(i:Int)):az (us l) 1 n l.length [ax x]:=by
 have hi:i<l.length:=by
  rcases Nat.lt_or_ge i l.length with h'|h'
  · exact h'
  · simp [List.getElem?_eq_none h'] at h
 subst hn
 exact ⟨⟨by omega,by omega⟩,by rw [Int.toNat_natCast];exact NV h⟩
theorem mV (l:List Nat) (a n:Nat) {m:List Nat} (h:(l.drop a).take n=m):de (us l) a n (us m):=by
 show ((l.map ax).drop a).take n=m.map ax
 rw [←List.map_drop,←List.map_take,h]
theorem yz (k:Nat):∀(n:Nat) (l:List Nat),l.length=n→n<2^40→bB (4294967296:Nat) l→aR (aI MD t0 k 95 0) (n+1) ⟨[(0, .pv (nat l))],[],[],[]⟩=some (.exit 0,⟨[(0, .pv (nat (dg (4294967296:Nat) (val (4294967296:Nat) l)))),(14, .pv (bv false))],[],[],[]⟩)
 |0,l,hl,_,_=>by
  have:l=[]:=List.length_eq_zero_iff.1 hl
  subst this
  exact aF (af (Y3 k 0 []) ⟨rfl,trivial⟩) (by simp)
 |n+1,l,hl,hn,hd=>by
  have hne:l≠[]:=by intro h;subst h;simp at hl
  have e:=List.dropLast_concat_getLast hne
  obtain ⟨x,hx⟩:∃x,x=l.getLast hne:=⟨_,rfl⟩
  obtain ⟨m,hm⟩:∃m,m=l.dropLast:=⟨_,rfl⟩
  rw [←hx,←hm] at e
  subst e
  have hl':m.length=n:=by simpa using hl
  have hw:IntKind.i64.wrap (((m++[x]).length:Int) - 1)=(n:Int):=by
   rw [wrap64]<;>rw [hl]<;>omega
  have hg:(m++[x])[n]? =some x:=by subst hl';simp
  have hr:az (us (m++[x])) 1 (IntKind.i64.wrap (((m++[x]).length:Int) - 1)) (m++[x]).length [ax x]:=eS hg hw
  have h0:decide (((m++[x]).length:Int)>0)=true:=by simp
  by_cases h:x=0
  · subst h
    refine aW (af (YZ k _ _ _ (us m) 0) ⟨h0,hr,rfl,⟨by omega,by omega,by omega⟩,rfl, ?_,trivial⟩) ?_
    · exact mV _ _ _ (by rw [hw,←hl'];simp)
    · rw [hw]
      have:=yz k n m hl' (by omega) hd.left
      rw [su]
      simpa [nat,hl'] using this
  · have:=aF (n:=n+1) (af (Y0 k (m++[x]).length (us (m++[x])) x) ⟨h0,hr,by simpa using h,trivial⟩) (by simp)
    rw [Dj (by decide) hd (.inr ⟨m,x,rfl,by omega⟩)]
    exact this
theorem xz (l:List Nat) (h:l.length<2^40) (hd:bB (4294967296:Nat) l):aA P0 95 [nat l] (one (nat (dg (4294967296:Nat) (val (4294967296:Nat) l)))):=
 ai ah (aO aL) (by rfl) (Pk (l.length+1) _ _ _ _) ⟨yz _ l.length l rfl h hd,trivial⟩
theorem OH {l:List Nat} {i x:Nat} (h:l[i]? =some x):(us l)[i]? =some (ax x):=by simp [us,h]
theorem gK {α:Type} {l:List α} {i:Nat} {x:α} (h:l[i]? =some x):i<l.length:=by
 rcases Nat.lt_or_ge i l.length with h'|h'
 · exact h'
 · simp [List.getElem?_eq_none h'] at h
theorem KZ:bV MD.P 111=some 1:=by kernel_rfl
theorem NR:ep MD.P 111=false:=by kernel_rfl
theorem OF:(MD.P.underlying 111).isSome=true:=by kernel_rfl
theorem pT:MD.P.bytesOf 111=4:=by kernel_rfl
theorem kz {l:List Nat} {o i x:Nat} (h:l[i]? =some x) (ho:o=i):Ld MD.P 111 (us l) o (ax x):=by
 subst ho
 have:=gK h
 show dZ MD.P 111 (us l) o=some (ax x)
 simp only [dZ,KZ,Option.bind_some,NR,OF]
 rw [if_pos (by rw [dn];omega)]
 simp [OH h]
theorem jz {l m:List Nat} {o i y:Nat} (h:l.set i y=m) (hi:i<l.length) (ho:o=i):ck (us l) o [ax y] (us m):=by
 subst ho h
 show splice (us l) o [ax y]=us (l.set o y)
 simp only [splice,us,List.map_set,List.length_singleton]
 rw [List.set_eq_take_append_cons_drop,if_pos (by simpa using hi),List.append_assoc];rfl
theorem qH {n:Nat}:iE [PV.lit (.int .u32 0)] n (us (List.replicate n 0)):=by
 show bh _ n=_
 induction n with
 |zero=>rfl
 |succ n ih=>simp only [bh,List.replicate_succ,us,List.map_cons] at ih ⊢;rw [ih];rfl
theorem bn {a:Int} {m:Nat} (h:a=(m:Int)) (hm:m<2^63):IntKind.i64.wrap a=(m:Int):=by
 subst h;rw [wrap64]<;>omega
theorem jc {a:Int} {m:Nat} (h:a=(m:Int)) (hm:m<2^32):IntKind.u32.wrap a=(m:Int):=by
 subst h
 unfold IntKind.wrap IntKind.bits IntKind.signed
 simp only
 have e1:(2:Int)^32=4294967296:=by decide
 rw [e1]
 simp only [Bool.false_and]
 rw [Int.emod_eq_of_lt (by omega) (by omega)]
 simp
theorem ia (a b:Nat):(a:Int).tdiv (b:Int)=((a / b:Nat):Int):=by
 rw [Int.tdiv_eq_ediv_of_nonneg (by omega)];rfl
theorem fy (a b:Nat):(a:Int).tmod (b:Int)=((a%b:Nat):Int):=by
 rw [Int.tmod_eq_emod_of_nonneg (by omega)];rfl
theorem F0 {x z r:Nat} (hx:x<2^r) (h:x+2^r* z<2^32) (y:Nat) (hy:y=x+2^r* z):IntKind.u32.wrap ((BitVec.ofInt IntKind.u32.bits (x:Int)|||BitVec.ofInt IntKind.u32.bits ((2^r* z:Nat):Int)).toNat:Int)=(y:Int):=by
 have hp:0<2^r:=Nat.pow_pos (by omega)
 have e:(BitVec.ofInt IntKind.u32.bits (x:Int)|||BitVec.ofInt IntKind.u32.bits ((2^r* z:Nat):Int)).toNat=y:=by
  rw [BitVec.toNat_or,BitVec.ofInt_natCast,BitVec.ofInt_natCast,BitVec.toNat_ofNat,BitVec.toNat_ofNat]
  show x%2^32|||(2^r* z)%2^32=y
  rw [Nat.mod_eq_of_lt (by omega),Nat.mod_eq_of_lt (by omega),Nat.or_comm,←Nat.two_pow_add_eq_or_of_lt hx,hy,Nat.add_comm]
 rw [e]
 exact jc rfl (by omega)
end Go.Proofs.YtibbgjafjhcemaaDoor.Cul
namespace Go.Proofs.YtibbgjafjhcemaaDoor.Cul
def aY (s:ByteArray):List Nat:=(s.data.toList.map (·.toNat)).reverse
theorem bW (s:ByteArray):(aY s).length=s.size:=by
 simp only [aY,List.length_reverse,List.length_map,Array.length_toList]
 rfl
theorem ef (s:ByteArray):bB 256 (aY s):=by
 intro x hx
 simp only [aY,List.mem_reverse,List.mem_map] at hx
 obtain ⟨y,_,rfl⟩:=hx
 exact y.toNat_lt
def bR (s:ByteArray):Nat:=val 256 (aY s)
def cellAt (c:Nat) (bs:List Nat) (i j:Nat):Nat:=val 256 ((bs.drop (c* j)).take (min c (i - c* j)))
def bM (c:Nat) (bs:List Nat) (i n:Nat):List Nat:=(List.range n).map (cellAt c bs i)
theorem ec (c:Nat) (bs:List Nat) (i n:Nat):(bM c bs i n).length=n:=by simp [bM]
theorem rq (c:Nat) (bs:List Nat) (n:Nat):bM c bs 0 n=List.replicate n 0:=by
 apply List.ext_getElem
 · simp [bM]
 · intro j h1 h2
   simp [bM,cellAt,val]
theorem fl {b:Nat} {l:List Nat} (h:bB b l) (n:Nat):bB b (l.take n):=fun x hx=>h x (List.mem_of_mem_take hx)
theorem jH {b:Nat} {l:List Nat} (h:bB b l) (n:Nat):bB b (l.drop n):=fun x hx=>h x (List.mem_of_mem_drop hx)
theorem rj {c:Nat} {bs:List Nat} (h:bB 256 bs) (i j:Nat):cellAt c bs i j<256^min c (i - c* j):=by
 have h1:=dc (fl (jH h (c* j)) (min c (i - c* j)))
 refine Nat.lt_of_lt_of_le h1 (Nat.pow_le_pow_right (by omega) ?_)
 simp;omega
theorem EF {c:Nat} (hc:0<c) {bs:List Nat} {i j:Nat} (h:j≠i / c):cellAt c bs (i+1) j=cellAt c bs i j:=by
 unfold cellAt
 have e:min c (i+1 - c* j)=min c (i - c* j):=by
  rcases Nat.lt_or_ge j (i / c) with h1|h1
  · have h2:c* (j+1)≤i:=by
      have:=Nat.mul_le_mul_left c (show j+1≤i / c from h1)
      exact Nat.le_trans this (Nat.mul_div_le i c)
    rw [Nat.mul_add] at h2
    omega
  · have h2:i / c<j:=by omega
    have h3:i<c* j:=by
     have:=(Nat.div_lt_iff_lt_mul hc).1 h2
     rwa [Nat.mul_comm] at this
    omega
 rw [e]
theorem cG {b:Nat} {l:List Nat} {m x:Nat} (h:l[m]? =some x):val b (l.take (m+1))=val b (l.take m)+b^m* x:=by
 have hm:m<l.length:=by
  rcases Nat.lt_or_ge m l.length with h'|h'
  · exact h'
  · simp [List.getElem?_eq_none h'] at h
 rw [List.take_add_one,h,Option.toList_some,jj]
 simp [val,List.length_take,Nat.min_eq_left (Nat.le_of_lt hm)]
theorem EE {c:Nat} (hc:0<c) {bs:List Nat} {i x:Nat} (h:bs[i]? =some x):cellAt c bs (i+1) (i / c)=cellAt c bs i (i / c)+256^(i%c)* x:=by
 unfold cellAt
 have e:c* (i / c)+i%c=i:=Nat.div_add_mod i c
 have hm:i%c<c:=Nat.mod_lt _ hc
 have e1:min c (i+1 - c* (i / c))=i%c+1:=by omega
 have e2:min c (i - c* (i / c))=i%c:=by omega
 rw [e1,e2]
 apply cG
 rw [List.getElem?_drop,e,h]
theorem rm {c:Nat} (hc:0<c) {bs:List Nat} {i n x:Nat} (h:bs[i]? =some x):(bM c bs i n).set (i / c) (cellAt c bs i (i / c)+256^(i%c)* x)=bM c bs (i+1) n:=by
 apply List.ext_getElem
 · simp [bM]
 · intro j h1 h2
   simp only [bM,List.length_set,List.length_map,List.length_range] at h1
   rw [List.getElem_set]
   split
   · rename_i e
     subst e
     simp [bM,EE hc h]
   · rename_i e
     simp [bM,EF hc (fun h=>e h.symm)]
theorem oo {c:Nat} (hc:0<c):∀(n:Nat) (bs:List Nat),bs.length≤c* n→val (256^c) (bM c bs bs.length n)=val 256 bs
 |0,bs,h=>by
  have:bs=[]:=List.length_eq_zero_iff.1 (by omega)
  subst this;rfl
 |n+1,bs,h=>by
  have hd:(bs.drop c).length≤c* n:=by rw [List.length_drop];rw [Nat.mul_add] at h;omega
  have ih:=oo hc n (bs.drop c) hd
  have e:bM c bs bs.length (n+1)=val 256 (bs.take c)::bM c (bs.drop c) (bs.drop c).length n:=by
   simp only [bM,List.range_succ_eq_map,List.map_cons,List.map_map]
   congr 1
   · simp only [cellAt,Nat.mul_zero,List.drop_zero,Nat.sub_zero]
     rcases Nat.le_total c bs.length with h1|h1
     · rw [Nat.min_eq_left h1]
     · rw [Nat.min_eq_right h1,List.take_of_length_le (Nat.le_refl _),List.take_of_length_le h1]
   · apply List.map_congr_left
     intro j _
     simp only [Function.comp,cellAt,List.drop_drop,List.length_drop]
     rw [show c* j.succ=c+c* j by rw [Nat.mul_succ];omega,show bs.length - (c+c* j)=bs.length - c - c* j by omega]
  rw [e,val,ih]
  have:=jj (b:=256) (bs.take c) (bs.drop c)
  rw [List.take_append_drop] at this
  rw [this]
  rcases Nat.le_total c bs.length with h1|h1
  · rw [List.length_take,Nat.min_eq_left h1]
  · rw [List.drop_of_length_le h1];simp [val]
theorem tw {c:Nat} {bs:List Nat} (h:bB 256 bs) (i n:Nat):bB (256^c) (bM c bs i n):=by
 intro x hx
 simp only [bM,List.mem_map] at hx
 obtain ⟨j,_,rfl⟩:=hx
 exact Nat.lt_of_lt_of_le (rj h i j) (Nat.pow_le_pow_right (by omega) (by omega))
theorem mG {s:ByteArray} {i:Nat} (h:i<s.size):∃x,(aY s)[i]? =some x∧(s[s.size - 1 - i]?).map (·.toNat)=some x:=by
 have h2:s.size - 1 - i<s.size:=by omega
 have hz:s.size=s.data.size:=rfl
 refine ⟨s[s.size - 1 - i].toNat, ?_, ?_⟩
 · simp only [aY]
   rw [List.getElem?_reverse (by rw [List.length_map,Array.length_toList];exact h)]
   simp only [List.length_map,Array.length_toList,List.getElem?_map]
   have:s.data.size=s.size:=rfl
   rw [this,List.getElem?_eq_getElem (by rw [Array.length_toList];exact h2)]
   rfl
 · rw [getElem?_pos s _ h2];rfl
def aH (n:Nat):ByteArray:=⟨((dg 256 n).reverse.map (fun x=>UInt8.ofNat x)).toArray⟩
theorem dJ (n:Nat):aY (aH n)=dg 256 n:=by
 simp only [aY,aH,List.map_map]
 have:List.map ((fun x=>x.toNat) ∘ fun x=>UInt8.ofNat x) (dg 256 n).reverse=(dg 256 n).reverse:=by
  rw [List.map_eq_iff]
  intro i
  cases h:(dg 256 n).reverse[i]? with
  |none=>simp
  |some x=>
   have hx:x<256:=cD (by decide) n x (List.mem_reverse.1 (List.mem_of_getElem? h))
   simp only [Option.map_some,Function.comp,Option.some.injEq]
   rw [UInt8.toNat_ofNat',Nat.mod_eq_of_lt hx]
 rw [this,List.reverse_reverse]
theorem uK {s t:ByteArray} (h:aY s=aY t):s=t:=by
 have h1:s.data.toList.map (·.toNat)=t.data.toList.map (·.toNat):=by
  have:=congrArg List.reverse h
  simpa [aY] using this
 have h2:s.data.toList=t.data.toList:=by
  have key:∀(l m:List UInt8),l.map (·.toNat)=m.map (·.toNat)→l=m:=by
   intro l
   induction l with
   |nil=>intro m h;cases m<;>simp_all
   |cons a l ih=>intro m h;cases m with
    |nil=>simp at h
    |cons b m=>
     simp only [List.map_cons,List.cons.injEq] at h
     rw [ih m h.2,UInt8.toNat_inj.1 h.1]
  exact key _ _ h1
 have h3:s.data=t.data:=Array.toList_inj.1 h2
 cases s;cases t;simp_all
theorem jb (n:Nat):bR (aH n)=n:=by rw [bR,dJ,ct (by decide)]
def Da (s:ByteArray):Prop:=aY s=[]∨∃m x,aY s=m++[x]∧0<x
theorem l8 {s:ByteArray} (h:Da s):aH (bR s)=s:=by
 apply uK
 rw [dJ,bR,Dj (by decide) (ef s) h]
theorem FO (n:Nat):Da (aH n):=by
 unfold Da
 rw [dJ]
 rcases Nat.eq_zero_or_pos n with rfl|h
 · exact .inl rfl
 · obtain ⟨m,x,e,h1,_⟩:=BN (b:=256) (by decide) h
   exact .inr ⟨m,x,e,h1⟩
theorem zy (s:ByteArray) (i j:Nat):(s.extract i j).data.toList=(s.data.toList.drop i).take (j - i):=by
 rw [ByteArray.data_extract]
 simp [List.take_drop,Array.toList_extract]
theorem jq {s:ByteArray} {n:Nat} (h:s.size=n+1):∃b,s[0]? =some b∧aY s=aY (s.extract 1 s.size)++[b.toNat]:=by
 have hz:s.size=s.data.toList.length:=rfl
 cases hl:s.data.toList with
 |nil=>rw [hl,h] at hz;simp at hz
 |cons c t=>
  refine ⟨c, ?_, ?_⟩
  · rw [getElem?_pos s 0 (by omega)]
    congr 1
    have h3:0<s.data.size:=by
     have:s.data.size=s.size:=rfl
     omega
    show s.data[0]'h3=c
    have:s.data.toList[0]'(by rw [hl];simp)=c:=by simp [hl]
    simpa using this
  · simp only [aY,zy,hl,List.drop_one,List.tail_cons,List.map_cons,List.reverse_cons]
    congr 2
    rw [List.take_of_length_le]
    rw [hl,List.length_cons] at hz
    omega
end Go.Proofs.YtibbgjafjhcemaaDoor.Cul
namespace Go.Proofs.YtibbgjafjhcemaaDoor.Cul
open Go Go.RowKit
noncomputable def cu {α:Type} (pre:α→Prop) (enc:α→List PV) (g:α→RV):List PV→Option RV:=fun args=>by
 classical exact if h:∃a,pre a∧enc a=args then some (g h.choose) else none
theorem bl {α:Type} {pre:α→Prop} {enc:α→List PV} {g:α→RV} (hi:∀a b,enc a=enc b→g a=g b) {a:α} (h:pre a):cu pre enc g (enc a)=some (g a):=by
 have hx:∃b,pre b∧enc b=enc a:=⟨a,h,rfl⟩
 unfold cu
 rw [dif_pos hx]
 exact congrArg some (hi _ _ hx.choose_spec.2)
theorem aE {α:Type} {P:Program} {f:Nat} {pre:α→Prop} {enc:α→List PV} {g:α→RV} (h:∀a,pre a→aA P f (enc a) (g a)):∀args r,cu pre enc g args=some r→aA P f args r:=by
 intro args r e
 unfold cu at e
 split at e
 · rename_i hx
   simp only [Option.some.injEq] at e
   subst e
   have:=h _ hx.choose_spec.1
   rwa [hx.choose_spec.2] at this
 · simp at e
noncomputable def pz {α:Type} (pre:α→Prop) (enc:α→List MA) (g:α→MR×List PV):List MA→Option (MR×List PV):=fun args=>by
 classical exact if h:∃a,pre a∧enc a=args then some (g h.choose) else none
theorem kG {α:Type} {pre:α→Prop} {enc:α→List MA} {g:α→MR×List PV} (hi:∀a b,enc a=enc b→g a=g b) {a:α} (h:pre a):pz pre enc g (enc a)=some (g a):=by
 have hx:∃b,pre b∧enc b=enc a:=⟨a,h,rfl⟩
 unfold pz
 rw [dif_pos hx]
 exact congrArg some (hi _ _ hx.choose_spec.2)
theorem kH {α:Type} {P:Program} {f:Nat} {pre:α→Prop} {enc:α→List MA} {g:α→MR×List PV} (h:∀a,pre a→dy P f (enc a) (g a).1 (g a).2):∀ms r cs',pz pre enc g ms=some (r,cs')→dy P f ms r cs':=by
 intro args r cs' e
 unfold pz at e
 split at e
 · rename_i hx
   simp only [Option.some.injEq] at e
   have:=h _ hx.choose_spec.1
   rw [e,hx.choose_spec.2] at this
   exact this
 · simp at e
end Go.Proofs.YtibbgjafjhcemaaDoor.Cul
namespace Go.Proofs.YtibbgjafjhcemaaDoor.Cul
open Go Go.RowKit
theorem Bf {l m:List Nat} (h:us l=us m):l=m:=by
 induction l generalizing m with
 |nil=>cases m with
  |nil=>rfl
  |cons y m=>simp [us] at h
 |cons x l ih=>cases m with
  |nil=>simp [us] at h
  |cons y m=>
   simp only [us,List.map_cons,List.cons.injEq,ax,PV.lit.injEq,Value.int.injEq,true_and] at h
   rw [ih h.2];congr 1;omega
theorem iu {l m:List Nat} (h:nat l=nat m):l=m:=by
 simp only [nat,PV.sl.injEq] at h
 exact Bf h.2.2
noncomputable def oc:List PV→Option RV:=cu (fun l:List Nat=>l.length<2^40∧bB (4294967296:Nat) l) (fun l=>[nat l]) (fun l=>one (nat (dg (4294967296:Nat) (val (4294967296:Nat) l))))
noncomputable def t1:Cl:=bQ [(95,oc)]
theorem XV (k n:Nat) (p:PV) (s:ByteArray) (cs0 cs ds:List PV):ay MD t1 k 92 [.lit (.string s)] [.i 8 (s.size+3:Nat), .i 9 n, .c false, .f cs0, .l (.exit 0) ⟨[(0, .pv (.lit (.string s))),(3, .bs 10 0 1 n),(12, .pv (iv s.size)),(13, .pv (iv s.size)),(14, .pv (bv false))],[(10,cs)],[],[]⟩, .f ds, .r (one p)]=
 some (RV.mk p none,[IntKind.i64.wrap ((↑s.size:Int)+(3:Int))=(↑(s.size+(3:Nat)):Int),IntKind.i64.wrap ((↑(s.size+(3:Nat)):Int).tdiv (4:Int))=(↑n:Int),false=false,(0:Int)≤(↑n:Int)∧(↑n:Int)≤(↑n:Int)∧(↑n:Int)* (↑(MD.P.bytesOf (111:Nat)):Int)≤(↑room:Int)∧(↑n:Int)≤(↑room:Int),decide ((↑n:Int)=(0:Int))=false,iE [PV.lit (Value.int IntKind.u32 (0:Int))] n cs0,aN MD t1 k (92:Nat) (0:Nat) (St.mk [(0,AV.pv (PV.lit (Value.string s))),(3,AV.bs 10 0 1 n),(12,AV.pv (PV.lit (Value.int IntKind.i64 (↑s.size:Int)))),(13,AV.pv (PV.lit (Value.int IntKind.i64 (0:Int))))] [(10,cs0)] [] []) (Xt.exit 0) (St.mk [(0,AV.pv (PV.lit (Value.string s))),(3,AV.bs 10 0 1 n),(12,AV.pv (PV.lit (Value.int IntKind.i64 (↑s.size:Int)))),(13,AV.pv (PV.lit (Value.int IntKind.i64 (↑s.size:Int)))),(14,AV.pv (PV.lit (Value.bool false)))] [(10,cs)] [] []),de cs 0 (n* (1:Nat)) ds,aa t1 95 [PV.sl 1 n ds] (RV.mk p none)]):=by kernel_rfl
theorem XW (k n i b x y:Nat) (s:ByteArray) (cs cs':List PV):ak MD t1 k 92 0 ⟨[(0, .pv (.lit (.string s))),(3, .bs 10 0 1 n),(12, .pv (iv s.size)),(13, .pv (iv i))],[(10,cs)],[],[]⟩ [.c true, .i 18 (s.size - 1), .i 20 (s.size - 1 - i:Nat), .i 23 (i/4:Nat), .j 24 (i/4), .e 25 (ax x), .i 28 b, .i 29 b, .i 31 (i%4:Nat), .i 32 (8*(i%4):Nat), .i 33 (256^(i%4)* b:Nat), .i 34 y, .j 35 (i/4), .s cs', .i 36 ((i+1:Nat):Int)]=
 some ((Xt.normal,St.mk [(0,AV.pv (PV.lit (Value.string s))),(3,AV.bs 10 0 1 n),(12,AV.pv (PV.lit (Value.int IntKind.i64 (↑s.size:Int)))),(13,AV.pv (PV.lit (Value.int IntKind.i64 (↑(i+(1:Nat)):Int))))] [(10,cs')] [] []),[],[decide ((↑i:Int)<(↑s.size:Int))=true,IntKind.i64.wrap ((↑s.size:Int) - (1:Int))=(↑s.size:Int) - (1:Int),IntKind.i64.wrap ((↑s.size:Int) - (1:Int) - (↑i:Int))=(↑(s.size - (1:Nat) - i):Int),IntKind.i64.wrap ((↑i:Int).tdiv (4:Int))=(↑(i / (4:Nat)):Int),false=false,aG (↑(i / (4:Nat)):Int) n (i / (4:Nat)),Ld MD.P 111 cs ((0:Nat)+i / (4:Nat)* (1:Nat)) (PV.lit (Value.int IntKind.u32 (↑x:Int))),fu s (↑(s.size - (1:Nat) - i):Int) (↑b:Int),IntKind.u32.wrap (↑b:Int)=(↑b:Int),(↑i:Int).tmod (4:Int)=(↑(i%(4:Nat)):Int),false=false,IntKind.i64.wrap ((8:Int)* (↑(i%(4:Nat)):Int))=(↑((8:Nat)* (i%(4:Nat))):Int),IntKind.u32.wrap ((↑b:Int)* (2:Int)^min (↑((8:Nat)* (i%(4:Nat))):Int).toNat IntKind.u32.bits)=(↑((256:Nat)^(i%(4:Nat))* b):Int),decide ((↑((8:Nat)* (i%(4:Nat))):Int)<(0:Int))=false,IntKind.u32.wrap (↑(BitVec.ofInt IntKind.u32.bits (↑x:Int)|||BitVec.ofInt IntKind.u32.bits (↑((256:Nat)^(i%(4:Nat))* b):Int)).toNat:Int)=(↑y:Int),aG (↑(i / (4:Nat)):Int) n (i / (4:Nat)),(0:Nat)+i / (4:Nat)* (1:Nat)+(PV.lit (Value.int IntKind.u32 (↑y:Int))).cells.length≤cs.length,ck cs ((0:Nat)+i / (4:Nat)* (1:Nat)) [PV.lit (Value.int IntKind.u32 (↑y:Int))] cs',IntKind.i64.wrap ((↑i:Int)+(1:Int))=(↑(i+(1:Nat)):Int)]):=by kernel_rfl
theorem XX (k n i:Nat) (s:ByteArray) (cs:List PV):ak MD t1 k 92 0 ⟨[(0, .pv (.lit (.string s))),(3, .bs 10 0 1 n),(12, .pv (iv s.size)),(13, .pv (iv i))],[(10,cs)],[],[]⟩ [.c false]=
 some ((Xt.exit 0,St.mk [(0,AV.pv (PV.lit (Value.string s))),(3,AV.bs 10 0 1 n),(12,AV.pv (PV.lit (Value.int IntKind.i64 (↑s.size:Int)))),(13,AV.pv (PV.lit (Value.int IntKind.i64 (↑i:Int)))),(14,AV.pv (PV.lit (Value.bool false)))] [(10,cs)] [] []),[],[decide ((↑i:Int)<(↑s.size:Int))=false]):=by kernel_rfl
theorem XY (k:Nat) (p:PV) (s:ByteArray):ay MD t1 k 92 [.lit (.string s)] [.i 8 3, .i 9 0, .c true, .u 1, .c false, .r (one p)]=
 some (RV.mk p none,[IntKind.i64.wrap ((↑s.size:Int)+(3:Int))=(3:Int),(0:Int)=(0:Int),false=false,(0:Int)≤(0:Int)∧(0:Int)≤(0:Int)∧(0:Int)* (↑(MD.P.bytesOf (111:Nat)):Int)≤(↑room:Int)∧(0:Int)≤(↑room:Int),true=true,(1:Nat)≤k,decide ((0:Int)<(↑s.size:Int))=false,aa t1 95 [PV.sl 1 0 []] (RV.mk p none)]):=by kernel_rfl
theorem IE {b r:Nat} (hb:b<256) (hr:r<4):IntKind.u32.wrap ((b:Int)* (2:Int)^min ((8* r:Nat):Int).toNat IntKind.u32.bits)=((256^r* b:Nat):Int):=by
 have e:min ((8* r:Nat):Int).toNat IntKind.u32.bits=8* r:=by
  rw [Int.toNat_natCast];show min (8* r) 32=8* r;omega
 rw [e]
 have e2:(2:Int)^(8* r)=((256^r:Nat):Int):=by
  rw [Int.pow_mul];simp
 rw [e2]
 have h1:256^r* b<2^32:=by
  have:256^r≤256^3:=Nat.pow_le_pow_right (by omega) (by omega)
  calc 256^r* b≤256^3* 255:=Nat.mul_le_mul this (by omega)
   _<2^32:=by decide
 exact jc (by rw [Int.mul_comm];simp) h1
theorem H9 (k i n:Nat) (s:ByteArray) (hi:i<s.size) (hs:s.size<2^30) (hn:n=(s.size+3) / 4):aI MD t1 k 92 0 ⟨[(0, .pv (.lit (.string s))),(3, .bs 10 0 1 n),(12, .pv (iv s.size)),(13, .pv (iv i))],[(10,us (bM 4 (aY s) i n))],[],[]⟩=some (.normal,⟨[(0, .pv (.lit (.string s))),(3, .bs 10 0 1 n),(12, .pv (iv s.size)),(13, .pv (iv (i+1:Nat)))],[(10,us (bM 4 (aY s) (i+1) n))],[],[]⟩):=by
 obtain ⟨b,hb,cF⟩:=mG hi
 have oQ:b<256:=ef s b (List.mem_of_getElem? hb)
 have hd:=ef s
 have hin:i / 4<n:=by omega
 have hx:(bM 4 (aY s) i n)[i / 4]? =some (cellAt 4 (aY s) i (i / 4)):=by simp [bM,hin]
 have hlt:=rj (c:=4) hd i (i / 4)
 have hm:min 4 (i - 4* (i / 4))=i%4:=by omega
 rw [hm] at hlt
 have hr:i%4<4:=by omega
 have hp:256^(i%4)* 256≤2^32:=by
  have:256^(i%4)≤256^3:=Nat.pow_le_pow_right (by omega) (by omega)
  omega
 have hsum:cellAt 4 (aY s) i (i / 4)+256^(i%4)* b<2^32:=by
  have h1:256^(i%4)* (b+1)≤256^(i%4)* 256:=Nat.mul_le_mul_left _ (by omega)
  rw [Nat.mul_add] at h1
  omega
 have Jd:(256:Nat)^(i%4)=2^(8* (i%4)):=by rw [Nat.pow_mul]
 refine af (XW k n i b (cellAt 4 (aY s) i (i / 4)) (cellAt 4 (aY s) i (i / 4)+256^(i%4)* b) s _ (us (bM 4 (aY s) (i+1) n))) ⟨?_, ?_, ?_, ?_,rfl, ?_, ?_, ?_, ?_, ?_,rfl, ?_, ?_, ?_, ?_, ?_, ?_, ?_, ?_,trivial⟩
 · simpa using hi
 · rw [wrap64]<;>omega
 · rw [wrap64]<;>omega
 · exact bn (ia i 4) (by omega)
 · exact ⟨rfl,hin⟩
 · exact kz hx (by omega)
 · show ji s _=_
   unfold ji
   rw [if_pos (by omega),Int.toNat_natCast]
   cases h:s[s.size - 1 - i]? with
   |none=>rw [h] at cF;simp at cF
   |some c=>rw [h] at cF;simp at cF;simp [cF]
 · exact jc rfl (by omega)
 · exact fy i 4
 · exact bn (by omega) (by omega)
 · exact IE oQ hr
 · simp;omega
 · rw [Jd] at hlt hsum ⊢
   exact F0 hlt hsum _ rfl
 · exact ⟨rfl,hin⟩
 · simp only [dn,ec,PV.cells,List.length_singleton];omega
 · exact jz (rm (by omega) hb) (by rw [ec];exact hin) (by omega)
 · exact bn (by omega) (by omega)
theorem nQ {l:List Nat} (h:l.length<2^40) (hd:bB (4294967296:Nat) l):oc [nat l]=some (one (nat (dg (4294967296:Nat) (val (4294967296:Nat) l)))):=
 bl (enc:=fun l=>[nat l]) (fun a b e=>by have:=iu (List.cons.inj e).1;subst this;rfl) ⟨h,hd⟩
theorem Ef:aP MD.P t1:=aO (au (aE fun l h=>xz l h.1 h.2) aL)
theorem Pc (s:ByteArray) (hs:s.size<2^30):aA P0 92 [.lit (.string s)] (one (nat (dg (4294967296:Nat) (bR s)))):=by
 have hroom:(2:Int)^33≤(room:Int):=by decide
 by_cases h0:s.size=0
 · have e:bR s=0:=by
     have:aY s=[]:=List.length_eq_zero_iff.1 (by rw [bW];exact h0)
     simp [bR,this,val]
   rw [e]
   refine ai ah Ef (by rfl) (XY 1 (nat []) s) ⟨?_,rfl,rfl,⟨by omega,by omega,by omega,by omega⟩,rfl,by omega, ?_, ?_,trivial⟩
   · rw [h0];rfl
   · simp [h0]
   · exact nQ (l:=[]) (by simp) (by simp [bB])
 · obtain ⟨n,hn⟩:∃n,n=(s.size+3) / 4:=⟨_,rfl⟩
   have hn0:0<n:=by omega
   have hend:val (4294967296:Nat) (bM 4 (aY s) s.size n)=bR s:=by
    have:=oo (c:=4) (by omega) n (aY s) (by rw [bW];omega)
    rw [bW] at this
    exact this
   refine ai ah Ef (by rfl) (XV (s.size+1) n (nat (dg (4294967296:Nat) (bR s))) s (us (List.replicate n 0)) (us (bM 4 (aY s) s.size n)) (us (bM 4 (aY s) s.size n))) ⟨?_, ?_,rfl,⟨by omega,by omega, ?_,by omega⟩, ?_,qH, ?_, ?_, ?_,trivial⟩
   · rw [wrap64]<;>omega
   · exact bn (by rw [hn];exact ia _ _) (by omega)
   · rw [pT];omega
   · simp;omega
   · have:=cK (f:=aI MD t1 (s.size+1) 92 0) (S:=fun i=>⟨[(0, .pv (.lit (.string s))),(3, .bs 10 0 1 n),(12, .pv (iv s.size)),(13, .pv (iv i))],[(10,us (bM 4 (aY s) i n))],[],[]⟩) (n:=s.size) (fun i hi=>H9 _ i n s hi hs hn) (af (XX _ n s.size s _) ⟨by simp,trivial⟩) (by simp) (s.size+1) (by omega)
     rw [rq] at this
     exact this
   · refine mV _ 0 (n* 1) ?_
     rw [List.drop_zero,List.take_of_length_le (by rw [ec];omega)]
   · have:=nQ (l:=bM 4 (aY s) s.size n) (by rw [ec];omega) (tw (ef s) _ _)
     rw [hend] at this
     simp only [nat,ec] at this
     exact this
end Go.Proofs.YtibbgjafjhcemaaDoor.Cul
