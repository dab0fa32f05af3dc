/- Part of a proof by an abstract machine for the program's code: lemmas, without conditions of their own beyond those that each states. (Made smaller by a program: short names, no comments.) -/
import Derived.Deep.Upon
import Derived.OrdersIn
import Derived.LoopNIn
import Derived.TacticsIn
import Derived.OwnWalkIn
import Derived.RangeFuncCalls
import Derived.RangeFuncLeaves
import Derived.RangeFuncNested
import Derived.LoopN
import Derived.Laws.Sem
import Derived.Test.YtibbgjafjhcemaaGreatDoorRTHG0
set_option linter.unusedVariables false
set_option linter.unusedSimpArgs false
namespace Go.Proofs.YtibbgjafjhcemaaGreatDoor.Cul
open Go Go.RowKit
section
variable {P:Program} {base:Nat} {w:World} {Pr:aC} {bk:Key→Nat} {st:St} {a:Act} {N:Nat}
theorem vE (z:Array Value) (n s:Nat) (h:z.size=s):(Builtin.zeroCells z n).size=n* s:=by rw [size_zeroCells,h]
theorem A9 (I:Inv base w Pr bk st a N) {o:Oper} {d s n m cap b off:Nat} {old new:List PV} {olds news:List Value} {q:Pl} (jZ:o.dst=some d) (hd:d<N)
  (hq:tM st q) (ES:bk q.key=b) (Jb:∀t,q= .s t→¬dS st t)
  (hro:aM w Pr old olds) (UB:One olds) (Pj:aM w Pr new news) (xA:One news) (hlo:old.length=n* s) (Yr:new.length=m* s) (QD:w.rangeAt b off olds) (UD:∀i,i<olds.length→Pr b (off+i))
  (hR:Room w Pr b off n cap s) (hoff:off=0) (hfit:n+m≤cap)
  (he:(execOp a.eval o).run P w= .ok (.value (.slice (some ⟨b,off,none⟩) (n+m) cap)) (w.setCells b (off+n* s) news)):
  jF P base w Pr bk st a N o (({ st with gr:=st.gr.filter (fun x=>x.1≠q),tg:=st.tg.map (fL q)}).made (some d) { v:= .pv (.sl s (n+m) (old++new)),gr:=some s}):=by
 have bS:live st q.key:=by
  cases q with
  |s t=>exact .inr hq
  |c k o=>exact hq
 have hown:=I.own _ bS
 rw [ES] at hown
 obtain ⟨cur,T,fK,gl⟩:=hR.there
 have X6:=hro.length
 have X5:=Pj.length
 have hmul:(n+m)* s≤cap* s:=Nat.mul_le_mul_right _ hfit
 have Qf:(n+m)* s=n* s+m* s:=Nat.add_mul ..
 have hle:off+n* s+news.length≤cur.size:=by omega
 rw [td news (off+n* s) cur w fK hle] at he
 have hW:=lG w b (aY cur.toList (off+n* s) news).toArray fK (by rw [List.size_toArray,iS (by simpa using hle)];simp)
 have hh:(w.setRow b (aY cur.toList (off+n* s) news).toArray).heap[b]? =some (.cells (aY cur.toList (off+n* s) news).toArray T (0,0)):=setRow_heap w _ _ _ _ _ fK
 have hsz:(aY cur.toList (off+n* s) news).length=cur.size:=by unfold aY;simp;omega
 have hcell:∀o',o'<off+n* s→(w.setRow b (aY cur.toList (off+n* s) news).toArray).cell? ⟨b,o',none⟩=w.cell? ⟨b,o',none⟩:=fun o' ho'=>by
  rw [cell_of_row _ _ _ _ _ _ hh,cell_of_row _ _ _ _ _ _ fK]
  have:=iZ cur.toList (off+n* s) news (by simp;omega) o' (.inl ho')
  simpa [aY] using this
 obtain ⟨aD,fj⟩:∃aD:aC,∀b' o',aD b' o'↔(Pr b' o'∨(b'=b∧off+n* s≤o'∧o'<off+(n+m)* s)):=⟨fun b' o'=>_,fun _ _=>Iff.rfl⟩
 have hK:Kp w Pr (w.setRow b (aY cur.toList (off+n* s) news).toArray) aD:=⟨fun b' o' h=>(fj b' o').2 (.inl h),fun b' o' hp=>by
  by_cases e:b'=b
  · subst e;exact hcell o' (hR.pr o' hp)
  · exact World.cell?_of_block (w:=w) (hW.other b' e)⟩
 have I2:=(I.release q).wZ hW hown.2 (fun x hx e=>by
  obtain ⟨h1,h2⟩:=j4 hx Jb
  exact h2 (I.inj x q.key h1 bS (by rw [e,ES]))) hK (fun b' o' h hne=>((fj b' o').1 h).resolve_right (fun h=>hne h.1))
 have cQ:Rp (w.setRow b (aY cur.toList (off+n* s) news).toArray) aD (.sl s (n+m) (old++new)) (.slice (some ⟨b,off,none⟩) (n+m) cap):=by
  refine .sl ((aM.mono hK hro).app (aM.mono hK Pj)) (fun v hv=> ?_) (by simp;omega) hfit (fun j v hj=> ?_) (fun i hi=> ?_)
  · simp only [List.mem_append] at hv;exact hv.elim (UB v) (xA v)
  · by_cases hjo:j<olds.length
    · rw [List.getElem?_append_left hjo] at hj
      rw [hcell (off+j) (by omega)];exact QD j v hj
    · rw [List.getElem?_append_right (by omega)] at hj
      have hlt:j - olds.length<news.length:=(List.getElem?_eq_some_iff.1 hj).1
      rw [cell_of_row _ _ _ _ _ _ hh]
      simp only [List.getElem?_toArray,aY]
      rw [List.append_assoc,List.getElem?_append_right (by simp;omega),List.getElem?_append_left (by simp;omega),←hj]
      congr 1
      simp only [List.length_take,Array.length_toList]
      omega
  · simp only [List.length_append] at hi
    by_cases Us:i<olds.length
    · exact (fj _ _).2 (.inl (UD i Us))
    · exact (fj _ _).2 (.inr ⟨rfl,by omega,by omega⟩)
 have hroom:Room (w.setRow b (aY cur.toList (off+n* s) news).toArray) aD b off (n+m) cap s:=
  ⟨hR.hz,hfit,⟨_,_,hh,by simp [hsz];exact gl⟩,fun o' h=>by
   rcases (fj _ _).1 h with h|h
   · have:=hR.pr o' h;omega
   · omega⟩
 have hm:dn base (w.setRow b (aY cur.toList (off+n* s) news).toArray) aD bk { st with gr:=st.gr.filter (fun x=>x.1≠q),tg:=st.tg.map (fL q)} a { v:= .pv (.sl s (n+m) (old++new)),gr:=some s} (.slice (some ⟨b,off,none⟩) (n+m) cap):=by
  refine ⟨fun _ _=>cQ,fun _ _ _ h=>by simp at h,fun z hz=> ?_,fun q h=>by simp at h⟩
  simp only [Option.some.injEq] at hz;subst hz
  refine ⟨b,off,n+m,cap,_,rfl,rfl,hroom,hoff,hown.1,by simpa using hown.2,fun x hx e=> ?_⟩
  obtain ⟨h1,h2⟩:=j4 hx Jb
  exact h2 (I.inj x q.key h1 bS (by rw [e,ES]))
 obtain ⟨aN,hI,hbk⟩:=I2.iq hd hm
 intro K Q zj
 unfold Oper.wp
 rw [he]
 show K (a.put o.dst _) _
 rw [jZ]
 exact zj _ _ _ _ hI (hW.below hown.1) hK (fun b' o' hb' h=>((fj b' o').1 h).resolve_right (fun h=>by omega)) hW.ko (fun k _=>hbk k) rfl
theorem CR (I:Inv base w Pr bk st a N) {o:Oper} {args:Array Operand} {ts:Array TypeId} {st':St} (ho:o.op= .call { callee:= .builtin .append,args:=args,argTypes:=ts}) (hN:∀d,o.dst=some d→d<N) (h:effect P o st=some st'):jF P base w Pr bk st a N o st':=by
 simp only [effect,ho] at h
 rw [Option.bind_eq_some_iff] at h
 obtain ⟨d,hd,h⟩:=h
 split at h
 · rename_i x y T U ha hts
   split at h
   · rename_i e e' hT hU
     simp only [Option.bind_eq_some_iff] at h
     obtain ⟨s,hs,z,hz,p,hp,⟨n,old⟩,hv,⟨m,new⟩,hy,h⟩:=h
     split at h
     · rename_i hc
       obtain ⟨fK,gl,O6,LN,ED,LO⟩:=hc
       simp only at fK gl ED LO
       obtain ⟨i,hi,EJ⟩:=iX hs
       obtain ⟨i',zv,hi',qD,qC⟩:=kN (w:=w) (Pr:=Pr) hz
       rw [hi] at hi';cases hi'
       have hzl:zv.cells.size=s:=by
        obtain ⟨zM,_⟩:=qC.iB (iJ (iT hz))
        have:=zM.length
        rw [LN] at this;simpa using this.symm
       obtain ⟨news,xA,hn2,hsrc⟩:=NF (P:=P) I (Option.bind_eq_some_iff.2 hy) ED hU
       have Da:Src P i.size U (a.eval y) m news w:=by rw [EJ];exact hsrc
       have hbytes:P.bytesOf e=i.bytes:=by simp [Program.bytesOf,hi]
       rw [hbytes] at fK
       unfold room at fK gl
       have Pq:=A1 hv (iw I hp)
       have grow:∀(tj:St) (I2:Inv base w Pr bk tj a N) (A:Option Addr) (cap:Nat) (olds:List Value),a.eval x= .slice A n cap→aM w Pr old olds→One olds→
         (Builtin.firstCells i.size n (.slice A n cap)).run P w.drew= .ok olds.toArray w.drew→cap<n+m→jF P base w Pr bk st a N o (tj.made (some d) { v:= .pv (.sl s (n+m) (old++new)),gr:=some s}):=by
        intro tj I2 A cap olds hx hro C9 hf hgt
        have hrun:=run_append_grow_src w T U o.type e i zv hT hi qD A n cap olds hf (a.eval y) m news Da hgt (by omega) (growslice_fits hgt (by simpa using fK))
        have hge:=grownCap_ge w (n+m) cap e
        refine Ep (P:=P) (c:=grownCap w (n+m) cap e) (tail:=Builtin.zeroCells zv.cells (grownCap w (n+m) cap e - (n+m))) (e:=e) I2 hd (hN d hd) O6 (hro.app xA) (fun v hv=>by simp only [List.mem_append] at hv;exact hv.elim (C9 v) (hn2 v)) (by simp only [List.length_append];rw [Nat.add_mul];omega) hge (vE _ _ _ hzl) ?_
        refine oh ho ha hts ?_
        rw [hx];exact hrun
       split at h
       · rename_i v0
         rcases Pq with ⟨rfl,rfl,hx⟩|⟨sz,b,o',cap,vs,I9,_⟩
         · split at h
           · rename_i hm0
             simp only [Option.some.injEq] at h;subst h
             simp only at hm0;subst hm0
             have hnews:news=[]:=List.eq_nil_of_length_eq_zero (by rw [←xA.length];simpa using ED)
             subst hnews
             rw [eN]
             refine gD I hd (hN d hd) (v:= .slice none 0 0) ?_ (bu (by have:=iw I hp;rw [hx] at this;exact this))
             refine oh ho ha hts ?_
             rw [hx]
             exact run_append_nothing w T U o.type e i hT hi none 0 0 (Nat.le_refl _) (a.eval y) Da
           · rename_i hm0
             simp only [Option.some.injEq] at h;subst h
             simp only at hm0
             have:=grow st I none 0 [] hx .nil (fun _ h=>by simp at h) (run_firstCells_none _ _ _ _ _) (by omega)
             simpa using this
         · simp at I9
       · rename_i hnl
         rcases Pq with ⟨rfl,rfl,hx⟩|⟨sz,b,off,cap,olds,I9,hx,hro,C9,hlo,X8,Ml,Ja⟩
         ·
          split at h
          · rename_i t
            simp only [Option.map_eq_some_iff] at h
            obtain ⟨q,hq,h⟩:=h
            exfalso
            have hval:aG st.gr q=some s∧(q= .s t∨st.tag t=some q):=by
             split at hq
             · rename_i hg;simp only [Option.some.injEq] at hq;subst hq;exact ⟨hg, .inl rfl⟩
             · split at hq
               · rename_i q' pR
                 split at hq
                 · rename_i hg;simp only [Option.some.injEq] at hq;subst hq;exact ⟨hg, .inr pR⟩
                 · simp at hq
               · simp at hq
            obtain ⟨v,cR,_⟩:=I.slots t (.pv p) (yy hp)
            have EY:a.eval (.tmp t)=v:=gL cR
            rw [hx] at EY
            have eP:cN a w bk q=a.tmps[t]? :=by
             rcases hval.2 with rfl|pR
             · rfl
             · simp only [St.tag,Option.bind_eq_some_iff,id] at pR
               obtain ⟨_,h1,rfl⟩:=pR
               exact I.tags t q h1 ⟨s,hval.1⟩
            cases q with
            |s u=>
             obtain ⟨_,_,_,_,_,e2,_⟩:=I.gE u s hval.1
             simp only [cN] at eP;rw [e2,cR,←EY] at eP;simp at eP
            |c k j=>
             obtain ⟨_,_,_,_,_,_,_,e2,_⟩:=I.ig k j s hval.1
             simp only [cN] at eP;rw [e2,cR,←EY] at eP;simp at eP
          · simp at h
         · split at h
           · rename_i t
             simp only [Option.map_eq_some_iff] at h
             obtain ⟨q,hq,rfl⟩:=h
             have hval:aG st.gr q=some s∧(q= .s t∨st.tag t=some q):=by
              split at hq
              · rename_i hg;simp only [Option.some.injEq] at hq;subst hq;exact ⟨hg, .inl rfl⟩
              · split at hq
                · rename_i q' pR
                  split at hq
                  · rename_i hg;simp only [Option.some.injEq] at hq;subst hq;exact ⟨hg, .inr pR⟩
                  · simp at hq
                · simp at hq
             obtain ⟨v,cR,_⟩:=I.slots t (.pv p) (yy hp)
             have EY:a.eval (.tmp t)=v:=gL cR
             have eP:cN a w bk q=a.tmps[t]? :=by
              rcases hval.2 with rfl|pR
              · rfl
              · simp only [St.tag,Option.bind_eq_some_iff,id] at pR
                obtain ⟨_,h1,rfl⟩:=pR
                exact I.tags t q h1 ⟨s,hval.1⟩
             rw [cR,←EY,hx] at eP
             have Uo:tM st q:=⟨s,hval.1⟩
             obtain ⟨ES,hR,hoff,Jb⟩:bk q.key=b∧Room w Pr b off n cap s∧off=0∧(∀t,q= .s t→¬dS st t):=by
              cases q with
              |s u=>
               obtain ⟨o2,n2,Lh,c2,e1,e2,e3,e0⟩:=I.gE u s hval.1
               simp only [cN] at eP
               rw [e2] at eP
               simp only [Option.some.injEq,Value.slice.injEq,Addr.mk.injEq] at eP
               obtain ⟨⟨h1,rfl,_⟩,rfl,rfl⟩:=eP
               refine ⟨h1,by rw [←h1];exact e3,e0,fun t ht ⟨_,_,_,hx⟩=> ?_⟩
               cases ht;rw [e1] at hx;simp at hx
              |c k j=>
               obtain ⟨o2,n2,Lh,c2,dc,e0,e1,e2,e3,e9⟩:=I.ig k j s hval.1
               simp only [cN] at eP
               rw [e2] at eP
               simp only [Option.some.injEq,Value.slice.injEq,Addr.mk.injEq] at eP
               obtain ⟨⟨h1,rfl,_⟩,rfl,rfl⟩:=eP
               exact ⟨h1,by rw [←h1];exact e3,e9,fun t ht=>by simp at ht⟩
             by_cases hfit:n+m≤cap
             · refine A9 (P:=P) (b:=b) (off:=off) (cap:=cap) I hd (hN d hd) Uo ES Jb hro C9 xA hn2 LO ED Ml Ja hR hoff hfit ?_
               refine oh ho ha hts ?_
               rw [hx]
               obtain ⟨cur,T',fl,hcs⟩:=hR.there
               have hmul:(n+m)* s≤cap* s:=Nat.mul_le_mul_right _ hfit
               have Qf:(n+m)* s=n* s+m* s:=Nat.add_mul ..
               have Ye:news.length=m* s:=by rw [←xA.length];exact ED
               have:=run_append_room_src w T U o.type e i hT hi b off n cap (a.eval y) m news Da hfit (fun j hj=>by
                rw [cell_of_row _ _ _ _ _ _ fl,EJ]
                rw [Array.getElem?_eq_getElem (by omega)];rfl) (fun j hj=>frozen_of_row _ _ _ _ _ fl)
               rw [EJ] at this
               exact this
             · refine grow _ (I.release q) (some ⟨b,off,none⟩) cap olds hx hro C9 ?_ (by omega)
               exact run_firstCells_some w.drew i.size n ⟨b,off,none⟩ n cap olds (by rw [EJ,←hro.length];exact LO) (fun j v hj=>by rw [Addr.add_mid];exact Ml j v hj)
           · simp at h
     · simp at h
   · simp at h
 · simp at h
theorem rS {α:Type} (z:List α):∀(n m:Nat),n≤m→(bl z m).take (n* z.length)=bl z n
 |0,m,h=>by simp [bl]
 |n+1,0,h=>by omega
 |n+1,m+1,h=>by
  simp only [bl,Nat.add_mul,Nat.one_mul]
  rw [List.take_append,List.take_of_length_le (by omega),show n* z.length+z.length - z.length=n* z.length by omega,rS z n m (by omega)]
theorem tw {α:Type} {z:List α}:∀n v,v∈bl z n→v∈z
 |0,v,h=>by simp [bl] at h
 |n+1,v,h=>by
  simp only [bl,List.mem_append] at h
  exact h.elim id (tw n v)
theorem yg (I:Inv base w Pr bk st a N) {o:Oper} {t:TypeId} {l c:Operand} {st':St} (ho:o.op= .makeSlice t l c) (hN:∀d,o.dst=some d→d<N) (h:effect P o st=some st'):jF P base w Pr bk st a N o st':=by
 simp only [effect,ho] at h
 rw [Option.bind_eq_some_iff] at h
 obtain ⟨d,hd,h⟩:=h
 split at h
 · rename_i e n m hu hl hc
   rw [Option.bind_eq_some_iff] at h
   obtain ⟨s,hs,h⟩:=h
   rw [Option.bind_eq_some_iff] at h
   obtain ⟨z,hz,h⟩:=h
   split at h
   · rename_i gN
     obtain ⟨hn0,hnm,hb,hm,hzl,hs0⟩:=gN
     obtain ⟨kn,hkn⟩:=int_eq I hl
     obtain ⟨km,hkm⟩:=int_eq I hc
     obtain ⟨i,hi,EJ⟩:=iX hs
     obtain ⟨i',zv,hi',qD,qC⟩:=kN (w:=w) (Pr:=Pr) hz
     rw [hi] at hi';cases hi'
     obtain ⟨zM,BR⟩:=qC.iB (iJ (iT hz))
     have hzs:zv.cells.size=s:=by have:=zM.length;rw [hzl] at this;simpa using this.symm
     have hbytes:P.bytesOf e=i.bytes:=by simp [Program.bytesOf,hi]
     rw [hbytes] at hb
     unfold room at hb hm
     have hwn:IntKind.i64.wrap n=n:=IntWalk.i64_in _ (by omega)
     have UX:IntKind.i64.wrap m=m:=IntWalk.i64_in _ (by omega)
     have Ud:(i.bytes:Int)* m≤140737488355328:=by rw [Int.mul_comm];exact hb
     have Yo:(i.bytes:Int)* n≤140737488355328:=Int.le_trans (Int.mul_le_mul_of_nonneg_left hnm (by omega)) Ud
     have MB:((Array.range (m.toNat* s)).map (zv.cells[· %zv.cells.size]!))=(bl zv.cells.toList m.toNat).toArray:=by rw [←hzs];exact A4 _ _
     have hrun:(execOp a.eval o).run P w= .ok (.value (.slice (some ⟨w.heap.size,0,none⟩) n.toNat m.toNat)) (w.alloc (.cells (bl zv.cells.toList m.toNat).toArray e)):=by
      simp only [execOp,ho,hkn,hkm]
      refine dB ?_
      have rj:=vw (P:=P) e (bl zv.cells.toList m.toNat).toArray w
      have h1:¬(m<0):=by omega
      have h2:¬(281474976710656<(i.bytes:Int)* m):=by omega
      have h3:¬(n<0):=by omega
      have h4:¬(m<n):=by omega
      have hroom:(askRoom (m.toNat* i.bytes)).run P w= .ok () w:=by
       unfold askRoom;split<;>rfl
      have hT:(underlying t).run P w= .ok (.slice e) w:=eX hu w
      have QM:(zeroValue e).run P w= .ok zv w:=by simp [zeroValue,typeInfo,hi,qD]
      have Qj:¬(decide (m<0)||decide (↑i.bytes* m>2^48)||decide (n<0)||decide (n>m))=true:=by
       simp only [Bool.or_eq_true,decide_eq_true_eq,not_or]
       refine ⟨⟨⟨h1, ?_⟩,h3⟩, ?_⟩<;>omega
      unfold Instr.makeSlice
      rw [Sem.run_bind,hT,Result.andThen_ok]
      simp only [Sem.run_bind,asInt,asIntOf,typeInfo,program,Sem.run,hi,hwn,UX,Sem.run_pure,Result.andThen_ok]
      rw [if_neg Qj]
      simp only [Sem.run_bind,Sem.run_pure,Result.andThen_ok,hroom,fN hs]
      by_cases hm0:m.toNat* s=0
      · have:m.toNat=0:=(Nat.mul_eq_zero.1 hm0).resolve_right (by omega)
        simp only [if_pos hm0,Sem.run_bind,Sem.run_pure,Result.andThen_ok]
        rw [this] at rj ⊢
        simp only [Nat.zero_mul,bl] at rj ⊢
        have BP:(Array.map (fun x=>(#[]:Array Value)[x%(#[]:Array Value).size]!) (Array.range 0))= #[]:=by simp
        rw [BP]
        rw [rj];rfl
      · simp only [if_neg hm0,Sem.run_bind,Sem.run_pure,Result.andThen_ok,QM,MB,rj]
     have hf:=qW I (.cells (bl zv.cells.toList m.toNat).toArray e)
     have hh:(w.alloc (.cells (bl zv.cells.toList m.toNat).toArray e)).heap[w.heap.size]? =some (.cells (bl zv.cells.toList m.toNat).toArray e (0,0)):=heap_alloc w _
     have MC:(bl zv.cells.toList m.toNat).length=m.toNat* s:=by rw [ff];simp [hzs]
     have Mm:∀k,k≤m.toNat→Room (w.alloc (.cells (bl zv.cells.toList m.toNat).toArray e)) Pr w.heap.size 0 k m.toNat s:=fun k hk=>
      ⟨hs0,hk,⟨_,_,hh,by simp [MC]⟩,fun o' h=>absurd (I.bH _ _ h) (by omega)⟩
     have hfree:∀x,live st x→bk x≠w.heap.size:=fun x hx e=>by have:=(I.own x hx).2;omega
     have fin:∀(mm:Made),dn base (w.alloc (.cells (bl zv.cells.toList m.toNat).toArray e)) Pr bk st a mm (.slice (some ⟨w.heap.size,0,none⟩) n.toNat m.toNat)→jF P base w Pr bk st a N o (st.made (some d) mm):=by
      intro mm hm K Q hK
      obtain ⟨aN,hI,hbk⟩:=(I.fw hf).iq (hN d hd) hm
      unfold Oper.wp
      rw [hrun]
      show K (a.put o.dst _) _
      rw [hd]
      exact hK _ _ _ _ hI (hf.gB.mono I.hb) (hf.kp I.bH) (fun b o hb h=>hf.old b o (Nat.lt_of_lt_of_le hb I.hb) h) hf.ko (fun k _=>hbk k) rfl
     split at h
     · rename_i Mb
       simp only [Option.some.injEq] at h;subst h
       subst Mb
       refine fin _ ⟨fun _ _=> ?_,fun _ _ _ h=>by simp at h,fun z' dP=> ?_,fun q h=>by simp at h⟩
       · exact Rp.sl (vs:=[]) .nil (by simp) (by simp) (by simp) (fun j v hj=>by simp at hj) (fun i hi=>by simp at hi)
       · simp only [Option.some.injEq] at dP;subst dP
         exact ⟨w.heap.size,0,0,m.toNat,[],rfl,rfl,Mm 0 (by omega),rfl,I.hb,by simp,hfree⟩
     · rename_i Mb
       have hpre:bl zv.cells.toList n.toNat<+:(bl zv.cells.toList m.toNat).toArray.toList:=by
        have UR:=rS zv.cells.toList n.toNat m.toNat (by omega)
        rw [←UR];simpa using List.take_prefix _ _
       have QL:=aM.mono (hf.kp I.bH) (qx zM n.toNat)
       have X7:(bl z.cells n.toNat).length=n.toNat* s:=by rw [ff,hzl]
       intro K Q hK
       obtain ⟨aN,hI,_,hbk⟩:=(I.fw hf).dj (um:= .bs d 0 s n.toNat) (v0:= .slice (some ⟨w.heap.size,0,none⟩) n.toNat m.toNat) (hN d hd) hh hpre I.hb hfree (fun o' h=>absurd (I.bH _ _ h) (by omega)) QL (fun v hv=>BR v (tw n.toNat v hv)) rfl (by simp)
        (fun tj a2 gh t h1 h2=>⟨0,m.toNat,_,_,e,by rw [h2], .inl rfl,h1,by omega,hs0,by omega,by rw [h2];exact hh,by simp [MC]⟩) h
       unfold Oper.wp
       rw [hrun]
       show K (a.put o.dst _) _
       rw [hd]
       exact hK _ _ _ _ hI (hf.gB.mono I.hb) (hf.kp I.bH) (fun b o hb h=>hf.old b o (Nat.lt_of_lt_of_le hb I.hb) h) hf.ko (fun k hk=>hbk k (fun e=>hk (by rw [hd,e]))) rfl
   · simp at h
 · simp at h
end
end Go.Proofs.YtibbgjafjhcemaaGreatDoor.Cul
namespace Go.Proofs.YtibbgjafjhcemaaGreatDoor.Cul
open Go Go.RowKit
section
variable {P:Program} {base:Nat} {w:World} {Pr:aC} {bk:Key→Nat} {st:St} {a:Act} {N:Nat}
theorem Inv.cX (I:Inv base w Pr bk st a N) {w':World} {k:Nat} {cs cs':List PV} {c c':Array Value} {T:TypeId} {us':List Value} (hk:look st.bx k=some cs) (hlen:cs'.length=cs.length)
  (hos:w'.os=w.os) (US:w'.tape=w.tape) (hout:w'.output=w.output) (hsz:w.heap.size≤w'.heap.size) (zE:∀j,j<w.heap.size→j≠bk (.bx k)→w'.heap[j]? =w.heap[j]?)
  (hb:w.heap[bk (.bx k)]? =some (.cells c T (0,0))) (hb':w'.heap[bk (.bx k)]? =some (.cells c' T (0,0))) (hs:c'.size=c.size) (hpre:us'<+:c'.toList) (hr:aM w' Pr cs' us') (h1:One us'):
  Inv base w' Pr bk (st.cX k cs') a N∧Below base w w'∧Kp w Pr w' Pr∧KO w w':=by
 have hown:=I.own (.bx k) ⟨cs,hk⟩
 have hfree:=(I.boxes k cs hk).2
 have hK:Kp w Pr w' Pr:=⟨fun _ _ h=>h,fun b o hp=>by
  have hne:b≠bk (.bx k):=fun e=>hfree o (by rw [←e];exact hp)
  exact World.cell?_of_block (w:=w) (zE b (I.bH b o hp) hne)⟩
 have fW:KO w w':=⟨⟨hsz,fun j o h ho=>by
  have hne:j≠bk (.bx k):=fun e=>by subst e;rw [hb] at h;cases h;simp [Obj.isCells] at ho
  exact (zE j (Array.getElem?_eq_some_iff.1 h).1 hne).trans h⟩,fun j c2 T2 Tt h=>by
  by_cases e:j=bk (.bx k)
  · subst e;rw [hb] at h;cases h;exact ⟨c',hb',hs⟩
  · exact ⟨c2,(zE j (Array.getElem?_eq_some_iff.1 h).1 e).trans h,rfl⟩⟩
 have hne:∀x,live st x→x≠ .bx k→bk x≠bk (.bx k):=fun x hx oP e=>oP (I.inj x (.bx k) hx ⟨cs,hk⟩ e)
 have hlv:∀x,live st x→x≠ .bx k→w'.heap[bk x]? =w.heap[bk x]? :=fun x hx oP=>zE _ (I.own x hx).2 (hne x hx oP)
 have de:∀j dG,look (st.cX k cs').bx j=some dG→(j=k∧dG=cs')∨(j≠k∧look st.bx j=some dG):=by
  intro j dG hq
  simp only [St.cX,look] at hq
  split at hq
  · rename_i e;simp only [Option.some.injEq] at hq;exact .inl ⟨e.symm,hq.symm⟩
  · rename_i e;rw [bC,if_neg (Ne.symm e)] at hq;exact .inr ⟨Ne.symm e,hq⟩
 have zo:∀j dG,look st.bx j=some dG→∃BB,look (st.cX k cs').bx j=some BB∧BB.length=dG.length:=fun j dG e=>by
  simp only [St.cX,look]
  by_cases hj:k=j
  · subst hj;rw [if_pos rfl];rw [hk] at e;cases e;exact ⟨_,rfl,hlen⟩
  · rw [if_neg hj,bC,if_neg (Ne.symm hj)];exact ⟨dG,e,rfl⟩
 have dJ:∀p z,aG (st.cX k cs').gr p=some z→p.eC k=true∧aG st.gr p=some z:=by
  intro p z hp
  simp only [St.cX] at hp
  rw [iG] at hp
  split at hp
  · exact ⟨‹_›,hp⟩
  · simp at hp
 have bS:∀x,live (st.cX k cs') x→live st x:=by
  intro x hx
  cases x with
  |bx j=>
   obtain ⟨dG,hq⟩:=hx
   rcases de j dG hq with ⟨rfl,_⟩|⟨_,hq⟩
   · exact ⟨cs,hk⟩
   · exact ⟨dG,hq⟩
  |sx t=>
   rcases hx with hx|⟨z,hz⟩
   · exact .inl hx
   · exact .inr ⟨z,(dJ _ z hz).2⟩
  |cx j o=>obtain ⟨z,hz⟩:=hx;exact ⟨z,(dJ _ z hz).2⟩
 have hroom:∀x,live st x→x≠ .bx k→∀{o n cap sz},Room w Pr (bk x) o n cap sz→Room w' Pr (bk x) o n cap sz:=fun x hx oP {o n cap sz} h=>
  ⟨h.hz,h.le,by obtain ⟨c,T,e1,e2⟩:=h.there;exact ⟨c,T,(hlv x hx oP).trans e1,e2⟩,h.pr⟩
 refine ⟨?_,⟨hos,US,hout,hsz,fun j hj=>zE j (Nat.lt_of_lt_of_le hj I.hb) (by omega)⟩,hK,fW⟩
 constructor
 · exact I.size
 · exact ⟨fun d hd=>(I.defers.1 d hd).ko fW,I.defers.2⟩
 · exact Nat.le_trans I.hb hsz
 · exact fun b o h=>Nat.lt_of_lt_of_le (I.bH b o h) hsz
 · intro t av ht
   obtain ⟨v,hv,cQ⟩:=I.slots t av ht
   refine ⟨v,hv, ?_⟩
   have jY:∀{j off sz n v},gH st w bk j off sz n v→gH (st.cX k cs') w' bk j off sz n v:=fun {j off sz n v} h=>h.to rfl (zo j) (fun c T e=>fW.sized _ c T _ e)
   cases av with
   |pv p=>exact Rp.mono hK cQ
   |bp j off=>exact cQ
   |cl f caps=>obtain ⟨vs,h1,h2,h3⟩:=cQ;exact ⟨vs,h1,h2,fun i c u hc hu=>gJ.mono hK (h3 i c u hc hu)⟩
   |ex sz n c=>
    obtain ⟨o,cap,vs,h1,h2,h3,h4,h5,h6,h7⟩:=cQ
    have hl:live st (.sx t):= .inl ⟨sz,n,c,ht⟩
    exact ⟨o,cap,vs,h1,aM.mono hK h2,h3,h4,iO (hlv _ hl (by simp)) h5,hroom _ hl (by simp) h6,h7⟩
   |xr u=>exact cQ
   |xe u off=>exact cQ
   |bV _ _=>exact cQ
   |dead=>trivial
   |bs j off sz n=>exact jY cQ
   |mv f j off sz n=>obtain ⟨u,h1,h2⟩:=cQ;exact ⟨u,h1,jY h2⟩
   |tg j off sz n rest=>obtain ⟨u,us,h1,h2,h3⟩:=cQ;exact ⟨u,us,h1,jY h2,aM.mono hK h3⟩
 · exact fun x hx=>⟨(I.own x (bS x hx)).1,Nat.lt_of_lt_of_le (I.own x (bS x hx)).2 hsz⟩
 · exact fun x y hx hy=>I.inj x y (bS x hx) (bS y hy)
 · intro j dG hq
   rcases de j dG hq with ⟨rfl,rfl⟩|⟨oM,hq⟩
   · exact ⟨⟨T,c',us',hb',hpre,hr,h1⟩,hfree⟩
   · obtain ⟨⟨T',c2,Xf,e1,e0,e2,e3⟩,e4⟩:=I.boxes j dG hq
     exact ⟨⟨T',c2,Xf,(hlv (.bx j) ⟨dG,hq⟩ (by simpa using oM)).trans e1,e0,aM.mono hK e2,e3⟩,e4⟩
 · intro t z hz
   obtain ⟨_,hz⟩:=dJ _ z hz
   obtain ⟨o,n,cap,c2,e1,e2,e3,e0⟩:=I.gE t z hz
   exact ⟨o,n,cap,c2,e1,e2,hroom (.sx t) (.inr ⟨z,hz⟩) (by simp) e3,e0⟩
 · intro j i z hz
   obtain ⟨hnb,hz⟩:=dJ _ z hz
   have oM:j≠k:=by simpa [Pl.eC] using hnb
   obtain ⟨o,n,cap,c2,dc,e1,e2,e3,e4,e0⟩:=I.ig j i z hz
   refine ⟨o,n,cap,c2,dc, ?_,e2, ?_,hroom (.cx j i) ⟨z,hz⟩ (by simp) e4,e0⟩
   · simp only [St.cX,look];rw [if_neg (Ne.symm oM),bC,if_neg oM];exact e1
   · rw [←e3];exact World.cell?_of_block (w:=w) (hlv (.bx j) ⟨dc,e1⟩ (by simpa using oM))
 · intro t q ht hq
   simp only [St.cX] at ht
   rw [bQ (me k) (fun _ x=>x.bind fun p=>if p.eC k then some p else none) (fun _=>rfl)] at ht
   cases hm:look st.tg t with
   |none=>simp [hm] at ht
   |some p=>
    simp only [hm,Option.map_some,Option.some.injEq,Option.bind_eq_some_iff] at ht
    obtain ⟨p',rfl,ht⟩:=ht
    split at ht
    · rename_i hnb
      simp only [Option.some.injEq] at ht;subst ht
      obtain ⟨z,hz⟩:=hq
      obtain ⟨_,hz⟩:=dJ _ z hz
      rw [←I.tags t _ hm ⟨z,hz⟩]
      cases p' with
      |s u=>rfl
      |c j i=>
       obtain ⟨o,n,cap,c2,dc,e1,_⟩:=I.ig j i z hz
       have oM:j≠k:=by simpa [Pl.eC] using hnb
       simp only [cN]
       exact World.cell?_of_block (w:=w) (hlv (.bx j) ⟨dc,e1⟩ (by simpa using oM))
    · simp at ht
end
end Go.Proofs.YtibbgjafjhcemaaGreatDoor.Cul
namespace Go.Proofs.YtibbgjafjhcemaaGreatDoor.Cul
open Go Go.RowKit
section
variable {P:Program} {base:Nat} {w:World} {Pr:aC} {bk:Key→Nat} {st:St} {a:Act} {N:Nat}
inductive nC (st:St) (a:Act) (w:World) (Pr:aC) (bk:Key→Nat):List AV→List Value→Prop
 |nil:nC st a w Pr bk [] []
 |cons {av:AV} {v:Value} {fZ:List AV} {vs:List Value} {t:Nat} (h:dD st a w Pr bk t av v) (hs:nC st a w Pr bk fZ vs):nC st a w Pr bk (av::fZ) (v::vs)
theorem tK (I:Inv base w Pr bk st a N):∀{l:List Operand} {fZ:List AV},r5 st l=some fZ→nC st a w Pr bk fZ (l.map a.eval)
 |[],fZ,h=>by simp [r5] at h;subst h;exact .nil
 |x::l,fZ,h=>by
  simp only [r5,Option.bind_eq_some_iff,Option.map_eq_some_iff] at h
  obtain ⟨v,hv,r,hr,rfl⟩:=h
  obtain ⟨t,h1⟩:=eI I hv
  exact .cons h1 (tK I hr)
theorem A7 (I:Inv base w Pr bk st a N) {o:Oper} {f:Nat} {fZ:List AV} (h:kz st o=some (f,fZ)):∃us:List Value,execOp a.eval o=callFunc f us.toArray∧nC st a w Pr bk fZ us:=by
 unfold kz at h
 split at h
 · rename_i g args ts ho
   split at h
   · rename_i f' hg
     simp only [Option.map_eq_some_iff,Prod.mk.injEq] at h
     obtain ⟨l,hl,rfl,rfl⟩:=h
     have sS:=eH I hg
     generalize hge:a.eval g=gv at sS
     cases sS with
     |fn hcs=>
      cases hcs
      exact ⟨_,by simpa using k9 (cs:=[]) ho hge,tK I hl⟩
   · rename_i f' k off sz n hg
     simp only [Option.map_eq_some_iff,Prod.mk.injEq] at h
     obtain ⟨l,hl,rfl,rfl⟩:=h
     obtain ⟨u,hge,hu⟩:=N9 I hg
     refine ⟨u::args.toList.map a.eval, ?_, .cons (t:=0) hu (tK I hl)⟩
     have: #[u]++args.map a.eval=(u::args.toList.map a.eval).toArray:=Array.ext' (by simp)
     simp [execOp,ho,resolve,hge,Deferred.ofValue,invoke,this]
   · simp at h
 · simp at h
theorem vc {b size:Nat} {lK:List PV} {jk:Nat}:∀{fZ:List AV} {ms:List MA} {us:List Value},fZ.any bY=false→nM st fZ=some ms→nC st a w Pr bk fZ us→mD w Pr b size lK jk ms us
 |[],ms,us,_,h,k=>by simp [nM] at h;subst h;cases k;exact .nil
 |v::l,ms,us,hl,h,k=>by
  simp only [nM,Option.bind_eq_some_iff,Option.map_eq_some_iff] at h
  obtain ⟨m,hm,r,hr,rfl⟩:=h
  simp only [List.any_cons,Bool.or_eq_false_iff] at hl
  cases k with
  |cons h1 hs=>
   have ih:=vc (b:=b) (size:=size) (lK:=lK) (jk:=jk) hl.2 hr hs
   cases v with
   |pv p=>simp only [wJ,Option.some.injEq] at hm;subst hm;exact .p h1 ih
   |bs k off sz n=>simp [bY] at hl
   |_=>simp [wJ] at hm
theorem sZ {k sz:Nat} {cs:List PV} {c:Array Value} {T:TypeId} (hk:look st.bx k=some cs) (hb:w.heap[bk (.bx k)]? =some (.cells c T (0,0))):∀{fZ:List AV} {ms:List MA} {us:List Value},gj fZ=some (k,sz)→nM st fZ=some ms→nC st a w Pr bk fZ us→
  mD w Pr (bk (.bx k)) c.size cs sz ms us∧di ms=some cs
 |[],ms,us,hg,_,_=>by simp [gj] at hg
 |v::l,ms,us,hg,h,kk=>by
  simp only [nM,Option.bind_eq_some_iff,Option.map_eq_some_iff] at h
  obtain ⟨m,hm,r,hr,rfl⟩:=h
  cases kk with
  |cons h1 hs=>
   cases v with
   |bs j off sz' n=>
    simp only [gj] at hg
    split at hg
    · simp at hg
    · rename_i hl
      simp only [Option.some.injEq,Prod.mk.injEq] at hg
      obtain ⟨rfl,rfl⟩:=hg
      simp only [wJ,Option.map_eq_some_iff] at hm
      obtain ⟨dG,hk2,rfl⟩:=hm
      rw [hk] at hk2;cases hk2
      obtain ⟨o,cap,BB,c3,T3,e1,e2,e3,e4,e5,e6,e7,e8⟩:=h1
      rw [hk] at e3;cases e3
      rw [hb] at e7;cases e7
      exact ⟨.g ⟨o,cap,e1,e2,e4,e5,e6,e8⟩ (vc (by simpa using hl) hr hs),rfl⟩
   |pv p=>
    simp only [gj] at hg
    split at hg
    · simp at hg
    · simp only [wJ,Option.some.injEq] at hm;subst hm
      obtain ⟨i1,i2⟩:=sZ hk hb hg hr hs
      exact ⟨.p h1 i1,i2⟩
   |_=>simp [wJ] at hm
theorem sQ {k sz:Nat}:∀{fZ:List AV},gj fZ=some (k,sz)→∃off n,AV.bs k off sz n∈fZ
 |[],h=>by simp [gj] at h
 |v::l,h=>by
  cases v with
  |bs j off sz' n=>
   simp only [gj] at h
   split at h
   · simp at h
   · simp only [Option.some.injEq,Prod.mk.injEq] at h
     obtain ⟨rfl,rfl⟩:=h
     exact ⟨off,n,by simp⟩
  |_=>
   simp only [gj] at h
   split at h
   · simp at h
   · obtain ⟨off,n,hm⟩:=sQ h
     exact ⟨off,n,List.mem_cons_of_mem _ hm⟩
theorem w7:∀{fZ:List AV} {us:List Value},nC st a w Pr bk fZ us→∀av∈fZ,∃t v,dD st a w Pr bk t av v
 |_,_, .nil,av,h=>by simp at h
 |_,_, .cons h1 hs,av,h=>by
  rcases List.mem_cons.1 h with rfl|h
  · exact ⟨_,_,h1⟩
  · exact w7 hs av h
theorem J5 {call:Cl} (hC:aH P call) (I:Inv base w Pr bk st a N) {o:Oper} {f:Nat} {fZ:List AV} {st':St} (hN:∀d,o.dst=some d→d<N) (hc:kz st o=some (f,fZ)) (h:sr call o st f fZ=some st'):jF P base w Pr bk st a N o st':=by
 simp only [sr,Option.bind_eq_some_iff] at h
 obtain ⟨⟨k,sz⟩,hg,ms,Ma,⟨r,cs'⟩,hr,h⟩:=h
 split at h
 · rename_i hok
   simp only [Option.some.injEq] at h
   obtain ⟨us,he,cQ⟩:=A7 I hc
   obtain ⟨off,n,hmem⟩:=sQ hg
   obtain ⟨t0,v0,jY⟩:=w7 cQ _ hmem
   obtain ⟨_,_,cs,c0,T0,_,_,hk,_,_,_,hb0,_⟩:=jY
   obtain ⟨⟨T,c,vs,hb,hpre,hrl,hone⟩,hfree⟩:=I.boxes k cs hk
   obtain ⟨hma,xx⟩:=sZ hk hb hg Ma cQ
   obtain ⟨hbody,bX⟩:=hC.mu f ms r cs' hr
   intro K Q hK
   refine nt he hbody (bX cs sz us w Pr (bk (.bx k)) T c xx I.bH ⟨hb,⟨vs,hpre,hrl,hone⟩,hfree⟩ hma) ?_
   rintro e w' ⟨v,rfl,hm⟩
   refine ⟨v,rfl, ?_⟩
   obtain ⟨c',zB,hcs⟩:=hm.Oc
   obtain ⟨us',hp',hr',ho'⟩:=zB.pre
   obtain ⟨I2,iE,hkp,fW⟩:=I.cX hk hm.len hm.os hm.tape hm.output hm.size hm.other hb zB.qy hcs hp' hr' ho'
   have Uw:look (st.cX k cs').bx k=some cs':=by simp [St.cX,look]
   have EH:∀{off n u},Br (bk (.bx k)) c.size cs' off sz n u→gH (st.cX k cs') w' bk k off sz n u:=fun {off n u} h=>by
    obtain ⟨o',cap,e1,e2,e3,e4,e5,e6⟩:=h
    exact ⟨o',cap,cs',c',T,e1,e2,Uw,e3,e4,e5,zB.qy,by omega⟩
   have uK:∀t,dD (st.cX k cs') a w' Pr bk t (wS k sz r) v:=fun t=>by
    have:=hm.res
    cases r with
    |pv p=>exact this
    |gs off n=>exact EH this
    |gt off n rest=>obtain ⟨u,us,e1,e2,e3⟩:=this;exact ⟨u,us,e1,EH e2,e3⟩
   have hne:∀sz' n cs,wS k sz r≠ .ex sz' n cs:=by intro _ _ _;cases r<;>simp [wS]
   cases hd:o.dst with
   |none=>
    rw [hd] at h
    rw [←h] at hK
    exact hK a w' Pr bk I2 iE hkp (fun _ _ _ h=>h) fW (fun _ _=>rfl) rfl
   |some d=>
    rw [hd] at h
    rw [eN] at h
    have hmo:dn base w' Pr bk (st.cX k cs') a { v:=wS k sz r} v:=⟨fun _=>uK,fun _ _ _ h=>absurd h (hne _ _ _),fun z h=>by simp at h,fun q h=>by simp at h⟩
    obtain ⟨aN,hI,hbk⟩:=I2.iq (hN d hd) hmo
    rw [←h] at hK
    exact hK _ w' Pr aN hI iE hkp (fun _ _ _ h=>h) fW (fun j _=>hbk j) rfl
 · simp at h
theorem pU:∀{cs:List PV} {vs:List Value} {w:World} {Pr:aC},cs.all cH=true→aM w Pr cs vs→∀{w2:World} {kV:aC},aM w2 kV cs vs
 |_,_,_,_,_, .nil,_,_=> .nil
 |_,_,_,_,h, .cons h1 hs,_,_=>by
  simp only [List.all_cons,Bool.and_eq_true] at h
  refine .cons ?_ (pU h.2 hs)
  cases h1 with
  |lit hsc=>exact .lit hsc
  |_=>simp [cH] at h
theorem rF {b:Nat} {c:Array Value} {T:TypeId} {vs:List Value} (h:w.heap[b]? =some (.cells c T (0,0))) (hr:w.rangeAt b 0 vs):vs<+:c.toList:=by
 refine ⟨c.toList.drop vs.length, ?_⟩
 have key:c.toList.take vs.length=vs:=by
  apply List.ext_getElem?
  intro i
  by_cases hi:i<vs.length
  · rw [List.getElem?_take_of_lt hi,Array.getElem?_toList]
    have:=hr i _ (List.getElem?_eq_getElem hi)
    rw [cell_of_row _ _ _ _ _ _ h,Nat.zero_add] at this
    rw [this,List.getElem?_eq_getElem hi]
  · rw [List.getElem?_take,if_neg hi,List.getElem?_eq_none (by omega)]
 calc vs++c.toList.drop vs.length=c.toList.take vs.length++c.toList.drop vs.length:=by rw [key]
  _=c.toList:=List.take_append_drop ..
theorem Lp {call:Cl} (hC:aH P call) (I:Inv base w Pr bk st a N) {o:Oper} {st':St} (hN:∀d,o.dst=some d→d<N) (h:uE call o st=some st'):jF P base w Pr bk st a N o st':=by
 unfold uE at h
 split at h
 · rename_i g args ts ho
   split at h
   · rename_i f caps hg
     split at h
     · simp at h
     · rename_i hout
       simp only [Option.bind_eq_some_iff] at h
       obtain ⟨fU,has,r,hr,d,hd,h⟩:=h
       split at h
       · rename_i sz n cs z hv hz
         split at h
         · rename_i gN
           obtain ⟨rfl,Hj⟩:=gN
           obtain ⟨hbody,bX⟩:=hC.fn f _ r hr
           have sS:=eH I hg
           generalize hge:a.eval g=gv at sS
           cases sS with
           |fn hcs=>
            have hargs:=(jV I (by simpa using hout) has).app hcs
            intro K Q hK
            refine nt (k9 ho hge) hbody (bX _ w Pr I.bH hargs) ?_
            rintro e w' ⟨v,aD,rfl,dX⟩
            refine ⟨v,rfl, ?_⟩
            obtain ⟨b,o',n',cap,dG,e1,e2,hroom,e3,e4,e5⟩:=dX.gr z hz
            rw [hv] at e1
            simp only [PV.sl.injEq,true_and] at e1
            obtain ⟨rfl,rfl⟩:=e1
            subst e3
            obtain ⟨qF,uJ⟩:∃qF:aC,∀b' o,qF b' o↔(aD b' o∧b'≠b):=⟨fun b' o=>_,fun _ _=>Iff.rfl⟩
            have hf:Fw w Pr w' qF:=⟨dX.fw.gB,fun b' o h=>(uJ b' o).2 ⟨dX.fw.pr b' o h,fun e=>by have:=I.bH b' o h;omega⟩,fun b' o hlt h=>dX.fw.old b' o hlt ((uJ b' o).1 h).1,fun b' o h=>dX.fw.new b' o ((uJ b' o).1 h).1⟩
            obtain ⟨c,T,hb,hsz⟩:=hroom.there
            obtain ⟨vs,hrl,hone,hpre,hlen⟩:∃vs,aM w' qF cs vs∧One vs∧vs<+:c.toList∧cs.length=n* z:=by
             have cQ:=dX.rp
             rw [hv,e2] at cQ
             cases cQ with
             |sl gm h1 hl hn hc hp=>exact ⟨_,pU Hj gm,h1,rF hb hc,hl⟩
            obtain ⟨aN,hI,_,hbk⟩:=(I.fw hf).dj (um:= .bs d 0 z n) (v0:=v) (hN d hd) hb hpre (Nat.le_trans I.hb e4) (fun x hx e=>by have:=(I.own x hx).2;omega) (fun o h=>((uJ b o).1 h).2 rfl) hrl hone rfl (by simp)
             (fun tj a2 gh t h1 h2=>⟨0,cap,_,c,T,by rw [h2];exact e2, .inl rfl,h1,by omega,hroom.hz,hroom.le,by rw [h2];exact hb,hsz⟩) h
            rw [hd]
            exact hK _ w' qF aN hI (hf.gB.mono I.hb) (hf.kp I.bH) (fun b o hb h=>hf.old b o (Nat.lt_of_lt_of_le hb I.hb) h) hf.ko (fun k hk=>hbk k (fun e=>hk (by rw [hd,e]))) rfl
         · simp at h
       · simp at h
   · simp at h
 · simp at h
end
end Go.Proofs.YtibbgjafjhcemaaGreatDoor.Cul
namespace Go.Proofs.YtibbgjafjhcemaaGreatDoor.Cul
open Go Go.RowKit
structure ef where
 k:Nat→Option Nat
 ds:Option (List Deferred)
section
variable {P:Program} {base:Nat} {w:World} {Pr:aC} {bk:Key→Nat} {st:St} {a:Act} {N:Nat} {aT:ef}
theorem En (I:Inv base w Pr bk st a N) {o:Oper} {st':St} (hN:∀d,o.dst=some d→d<N) (h:effect P o st=some st'):jF P base w Pr bk st a N o st':=by
 cases ho:o.op with
 |assign x=>exact CS I ho hN h
 |alloc t=>exact Eo I ho hN h
 |box t x=>exact J2 I ho hN h
 |store t x y=>exact Es I ho h
 |makeSlice t l c=>exact yg I ho hN h
 |call c=>
  obtain ⟨callee,args,ts⟩:=c
  cases callee with
  |value g=>simp [effect,ho] at h
  |builtin b=>
   cases b with
   |append=>exact CR I ho hN h
   |_=>simp [effect,ho] at h
  |invoke r n=>simp [effect,ho] at h
 |_=>simp [effect,ho] at h
theorem tV (a:Act) (v:Value):a.put none v=a:=rfl
theorem Er (I:Inv base w Pr bk st a N) {o:Oper} {m:Made} (hN:∀d,o.dst=some d→d<N) (h:gR P base w Pr bk st a o m):jF P base w Pr bk st a N o (st.made o.dst m):=by
 intro K Q hK
 refine h K Q fun v w' aD hf hm=> ?_
 have I2:=I.fw hf
 cases hd:o.dst with
 |none=>exact hK a w' aD bk (by rw [hd];exact I2) (hf.gB.mono I.hb) (hf.kp I.bH) (fun b o hb h=>hf.old b o (Nat.lt_of_lt_of_le hb I.hb) h) hf.ko (fun _ _=>rfl) rfl
 |some d=>
  obtain ⟨aN,hI,hbk⟩:=I2.iq (hN d hd) hm
  exact hK _ w' aD aN (by rw [hd];exact hI) (hf.gB.mono I.hb) (hf.kp I.bH) (fun b o hb h=>hf.old b o (Nat.lt_of_lt_of_le hb I.hb) h) hf.ko (fun k _=>hbk k) rfl
theorem uj {call:Cl} (hC:aH P call) (I:Inv base w Pr bk st a N) {o:Oper} {st':St} (hN:∀d,o.dst=some d→d<N) (h:kY P call o st=some st'):jF P base w Pr bk st a N o st':=by
 have plain:(if gZ o.op=true then (quiet P call o st).map (st.made o.dst) else effect P o st)=some st'→jF P base w Pr bk st a N o st':=fun h=>by
  split at h
  · simp only [Option.map_eq_some_iff] at h
    obtain ⟨m,hm,rfl⟩:=h
    exact Er I hN (Az hC I hm)
  · exact En I hN h
 unfold kY at h
 split at h
 · rename_i f vs hc
   split at h
   · exact J5 hC I hN hc h
   · split at h
     · exact Lp hC I hN h
     · exact plain h
 · exact plain h
structure iy (F:Fence):Prop where
 fn:∀f,F.fn f
 depth:F.depth=none
 calls:∀(n:Nat) (P:Program) (f:FuncId) (args:Array Value) (w:World) (R:Ending→World→Prop),Calls P f args w R→CallsIn F n P f args w R
 rows:∀(n:Nat) (P:Program) (row:String) (args:Array Value) (w:World) (R:Value→World→Prop),Rows P row args w R→RowsIn F n P row args w R
theorem o5 {n:Nat} {row:String} {args:Array Value} {R:Value→World→Prop} (h:Rows P row args w R):RowsIn Fence.wide n P row args w R:=
 fun c cs _=>let ⟨v,w',r,s⟩:=h c cs;⟨v,w',r,stepsIn_wide.2 s⟩
theorem jJ:iy Fence.wide:=⟨fun _=>trivial,rfl,fun _ _ _ _ _ _ h=>callsIn_wide.2 h,fun _ _ _ _ _ _ h=>o5 h⟩
theorem uA (l:Nat):iy (Fence.wide.inRound l):=⟨fun _=>trivial,rfl,fun _ _ _ _ _ _ h=>CallsIn.inRound l (callsIn_wide.2 h),fun _ _ _ _ _ _ h=>o5 h⟩
theorem mq {F:Fence} (E:iy F) {n:Nat} {o:Oper} (sU:∀c,o.op≠ .defer c) {K:Act→World→Prop} {Q:Exit→Act→World→Prop} (h:o.wp P a w K Q):o.wpIn F n P a w K Q:=by
 refine ⟨fun f _=>E.fn f, ?_⟩
 rw [Oper.semAt_plain F _ _ sU]
 unfold Oper.wp at h
 generalize (execOp a.eval o).run P w=r at h
 have hd:F.depth.isSome=true→1≤n:=fun h=>by rw [E.depth] at h;simp at h
 cases r with
 |ok x w'=>
  cases x with
  |value v=>exact h
  |skip=>exact h
  |defer d=>exact h
  |enter f args=>exact ⟨hd,E.calls _ _ _ _ _ _ h⟩
  |row r args=>exact ⟨hd,E.rows _ _ _ _ _ _ h⟩
  |_=>exact h.elim
 |halt x w'=>cases x<;>first|exact h|exact h.elim
theorem jT {call:Cl} {o:Oper} {s:St} (h:kY P call o st=some s):∀c,o.op≠ .defer c:=by
 intro c ho
 simp [kY,kz,ho,gZ,effect] at h
def Good (base:Nat) (w0:World) (aL:aC) (N:Nat) (aT:ef) (st:St) (a:Act) (w:World):Prop:=
 ∃Pr bk,Inv base w Pr bk st a N∧Below base w0 w∧(∀b o,b<base→Pr b o→aL b o)∧KO w0 w∧(∀k b,aT.k k=some b→bk (.bx k)=b)∧(∀b o v,aL b o→w0.cell? ⟨b,o,none⟩=some v→Pr b o∧w.cell? ⟨b,o,none⟩=some v)∧∀ds,aT.ds=some ds→a.defers=ds
theorem Good.step {w0:World} {aL:aC} {st':St} (hG:Below base w0 w∧(∀b o,b<base→Pr b o→aL b o)∧KO w0 w∧(∀k b,aT.k k=some b→bk (.bx k)=b)∧(∀b o v,aL b o→w0.cell? ⟨b,o,none⟩=some v→Pr b o∧w.cell? ⟨b,o,none⟩=some v)∧∀ds,aT.ds=some ds→a.defers=ds) {o:Oper} (eW:∀d,o.dst=some d→aT.k d=none) (h:jF P base w Pr bk st a N o st') {Q:Exit→Act→World→Prop} {K:Act→World→Prop}
  (hK:∀a' w',Good base w0 aL N aT st' a' w'→K a' w'):o.wp P a w K Q:=
 h K Q fun a' w' aD aN hI hb hk hp ho hbk hdf=>hK a' w' ⟨aD,aN,hI,hG.1.trans hb,fun b o hlt h=>hG.2.1 b o hlt (hp b o hlt h),hG.2.2.1.trans ho,⟨fun k b e=>(hbk k (fun e2=>by rw [eW k e2] at e;simp at e)).trans (hG.2.2.2.1 k b e),fun b o v h1 h2=>by
   obtain ⟨h3,h4⟩:=hG.2.2.2.2.1 b o v h1 h2
   exact ⟨hk.pr b o h3,(hk.cell b o h3).trans h4⟩,fun ds e=>hdf.trans (hG.2.2.2.2.2 ds e)⟩⟩
theorem Good.less {w0:World} {aL:aC} {st':St} (h:Good base w0 aL N aT st a w) (k:∀Pr bk,Inv base w Pr bk st a N→Inv base w Pr bk st' a N):Good base w0 aL N aT st' a w:=by
 obtain ⟨Pr,bk,I,h1⟩:=h
 exact ⟨Pr,bk,k Pr bk I,h1⟩
theorem lF (I:Inv base w Pr bk st a N) {ops:Array Oper} {o:Oper} {b:Bool} (h:dZ ops.toList o st=some b):Region.wanted o (yielded ops a.tmps)=b:=by
 unfold dZ at h
 unfold Region.wanted
 cases hg:o.guard with
 |none=>rw [hg] at h;simpa using h
 |some g=>
  obtain ⟨j,want⟩:=g
  simp only [hg,Option.bind_eq_some_iff] at h
  obtain ⟨t,⟨oj,hj,hd⟩,h⟩:=h
  have hj':ops[j]? =some oj:=by simpa using hj
  simp only [yielded,hj',Option.bind_some,hd]
  split at h
  · rename_i c hl
    obtain ⟨v,hv,hr⟩:=I.slots t _ hl
    cases hr
    simp only [hv]
    simp only [Option.some.injEq] at h
    subst h
    cases c<;>cases want<;>rfl
  · rename_i hl
    obtain ⟨v,hv,hr⟩:=I.slots t _ hl
    cases hr with
    |aQ hr=>
     simp only [hv]
     simp only [Option.some.injEq] at h
     subst h;rfl
  · simp at h
theorem wV (I:Inv base w Pr bk st a N) {o:Oper} (hN:∀d,o.dst=some d→d<N):∃aN,Inv base w Pr aN (st.put o.dst fA) (a.put o.dst undef) N∧∀k,aN (.bx k)=bk (.bx k):=by
 cases hd:o.dst with
 |none=>exact ⟨bk,I,fun _=>rfl⟩
 |some d=>
  rw [eN]
  exact I.iq (hN d hd) (bu (Rp.aQ .nil))
theorem rU {F:Fence} (E:iy F) (n:Nat) {call:Cl} (hC:aH P call) {w0:World} {aL:aC} {ops:Array Oper} {Q:Exit→Act→World→Prop} {st':St} (hQ:∀a' w',Good base w0 aL N aT st' a' w'→Q .normal a' w'):
  ∀(l:List Oper) (st:St) (a:Act) (w:World),(∀o∈l,∀d,o.dst=some d→d<N∧aT.k d=none)→Good base w0 aL N aT st a w→n9 (kY P call) ops.toList l st=some st'→wpListIn F n P ops Q l a w
 |[],st,a,w,hN,hG,h=>by
  simp only [n9,Option.some.injEq] at h;subst h
  exact hQ a w hG
 |o::l,st,a,w,hN,hG,h=>by
  obtain ⟨Pr,bk,I,gV⟩:=hG
  simp only [n9,Option.bind_eq_some_iff] at h
  obtain ⟨b,hb,h⟩:=h
  have hw:=lF (ops:=ops) I hb
  refine wpListIn_step fun K hK=> ?_
  cases b with
  |true=>
   simp only [Option.bind_eq_some_iff] at h
   obtain ⟨s1,hs1,h⟩:=h
   rw [if_pos hw]
   exact mq E (jT hs1) (Good.step gV (fun d hd=>(hN o (by simp) d hd).2) (uj hC I (fun d hd=>(hN o (by simp) d hd).1) hs1) fun a' w' TW=>hK a' w' (rU E n hC hQ l s1 a' w' (fun o' ho'=>hN o' (List.mem_cons_of_mem _ ho')) TW h))
  |false=>
   simp only at h
   rw [if_neg (by rw [hw];simp)]
   obtain ⟨aN,I',hbk⟩:=wV I (fun d hd=>(hN o (by simp) d hd).1)
   exact ⟨fun f _=>E.fn f,hK _ _ (rU E n hC hQ l _ _ _ (fun o' ho'=>hN o' (List.mem_cons_of_mem _ ho')) ⟨Pr,aN,I',gV.1,gV.2.1,gV.2.2.1,fun k b e=>(hbk k).trans (gV.2.2.2.1 k b e),gV.2.2.2.2.1,fun ds e=>by
    have:=gV.2.2.2.2.2 ds e
    rw [←this];cases o.dst<;>rfl⟩ h)⟩
end
end Go.Proofs.YtibbgjafjhcemaaGreatDoor.Cul
namespace Go.Proofs.YtibbgjafjhcemaaGreatDoor.Cul
open Go Go.RowKit
section
variable {P:Program} {base:Nat} {w:World} {Pr:aC} {bk:Key→Nat} {st:St} {a:Act} {N:Nat} {aT:ef}
theorem Inv.Lm (I:Inv base w Pr bk st a N) {t sz n:Nat} {cs:List PV} (heq:look st.sl t=some (.ex sz n cs)):
  Inv base w Pr bk { st with sl:=(bF st.sl t).map (dA t)} a N∧∀x,live { st with sl:=(bF st.sl t).map (dA t)} x→bk x≠bk (.sx t):=by
 have hlk:∀u,look (bF st.sl t) u=if u=t then none else look st.sl u:=bC st.sl t
 have zA:aG st.gr (.s t)=none:=by
  cases e:aG st.gr (.s t) with
  |none=>rfl
  |some z=>obtain ⟨o',n',cap',cs',h1,_⟩:=I.gE t z e;rw [heq] at h1;simp at h1
 constructor
 · refine I.less (fun u av h=> ?_) (fun k cs h=>h) (fun q z h=>⟨h, ?_⟩) (fun t q h=>h) (fun u x h hx=> ?_) (fun _ _ _ _ _ _ e=>e)
   · simp only at h
     rw [bQ (dA t) (fun _ av=>if bn t av then .dead else av) (fun _=>rfl),hlk] at h
     by_cases e:u=t
     · simp [e] at h
     · rw [if_neg e] at h
       cases hq:look st.sl u with
       |none=>simp [hq] at h
       |some y=>
        simp only [hq,Option.map_some,Option.some.injEq] at h
        split at h
        · obtain ⟨v,hv,_⟩:=I.slots u y hq;exact .inr ⟨h.symm,v,hv⟩
        · exact .inl (by rw [h])
   · cases q with
     |s u=>
      simp only
      rw [bQ (dA t) (fun _ av=>if bn t av then .dead else av) (fun _=>rfl),hlk]
      have e:u≠t:=fun e=>by subst e;rw [zA] at h;simp at h
      rw [if_neg e]
      obtain ⟨o',n',cap',cs',h1,_⟩:=I.gE u z h
      rw [h1];rfl
     |c k o=>rfl
   · simp only at h
     obtain ⟨sz',n',cs',hx⟩:=hx
     have EX:x≠t:=by
      intro e;subst e
      rcases h with h|⟨off,h⟩<;>
      · rw [bQ (dA x) (fun _ av=>if bn x av then .dead else av) (fun _=>rfl)] at h
        cases hq:look (bF st.sl x) u with
        |none=>simp [hq] at h
        |some y=>simp only [hq,Option.map_some,Option.some.injEq] at h;split at h<;>simp_all [bn]
     refine ⟨sz',n',cs', ?_⟩
     simp only
     rw [bQ (dA t) (fun _ av=>if bn t av then .dead else av) (fun _=>rfl),hlk,if_neg EX,hx];rfl
 · intro x hx e
   have EP:live st x∧x≠ .sx t:=by
    cases x with
    |bx k=>exact ⟨hx,by simp⟩
    |cx k o=>exact ⟨hx,by simp⟩
    |sx u=>
     have zI:u≠t:=by
      intro e2;subst e2
      rcases hx with ⟨_,_,_,hx⟩|⟨z,hx⟩
      · simp only at hx
        rw [bQ (dA u) (fun _ av=>if bn u av then .dead else av) (fun _=>rfl),hlk,if_pos rfl] at hx;simp at hx
      · simp only at hx;rw [zA] at hx;simp at hx
     refine ⟨?_,by simpa using zI⟩
     rcases hx with ⟨sz',n',cs',hx⟩|hx
     · simp only at hx
       rw [bQ (dA t) (fun _ av=>if bn t av then .dead else av) (fun _=>rfl),hlk,if_neg zI] at hx
       cases hq:look st.sl u with
       |none=>simp [hq] at hx
       |some y=>simp only [hq,Option.map_some,Option.some.injEq] at hx;split at hx<;>simp_all [live,dS]
     · exact .inr hx
   exact EP.2 (I.inj x (.sx t) EP.1 (.inl ⟨sz,n,cs,heq⟩) e)
theorem tW {a:Act} {t:Nat} {v:Value} (h:a.tmps[t]? =some v):a.put (some t) v=a:=by
 have:a.tmps.setIfInBounds t v=a.tmps:=by
  apply Array.ext_getElem?
  intro i
  by_cases e:t=i
  · subst e
    have hlt:t<a.tmps.size:=(Array.getElem?_eq_some_iff.1 h).1
    rw [Array.getElem?_setIfInBounds_self_of_lt hlt,h]
  · rw [Array.getElem?_setIfInBounds_ne e]
 simp [Act.put,this]
theorem Cx (w:World) (g:Nat) (h:∃c T fz,w.heap[g]? =some (.cells c T fz)):Wr w w g:=⟨rfl,rfl,rfl,rfl,fun _ _=>rfl,h,fun c T fz e=>⟨c,e,rfl⟩⟩
theorem ry (gr:List (Pl×Nat)) (p q:Pl):aG (gr.filter (fun x=>x.1≠p)) q=if q=p then none else aG gr q:=by
 have:=dY (fun x=>decide (x≠p)) gr q
 simp only [ne_eq,decide_not,Bool.not_eq_eq_eq_not,Bool.not_true,decide_eq_false_iff_not,ite_not] at this ⊢
 exact this
theorem iH (st:St) (t k u:Nat):look (st.ec t k).sl u=if u=t then none else (look st.sl u).map fun av=>if ir k av then av else .dead:=by
 simp only [St.ec]
 rw [bQ (Je k) (fun _ av=>if ir k av then av else .dead) (fun _=>rfl),bC]
 split<;>rfl
theorem Inv.ec (I:Inv base w Pr bk st a N) {t k off sz n:Nat} (heq:look st.sl t=some (.bs k off sz n)):Inv base w Pr bk (st.ec t k) a N:=by
 refine I.less (fun u av h=> ?_) (fun j cs h=> ?_) (fun p z h=> ?_) (fun u q h=> ?_) (fun u x h hx=> ?_) (fun u av j h hj cs e=> ?_)
 · rw [iH] at h
   split at h
   · simp at h
   · cases hq:look st.sl u with
     |none=>simp [hq] at h
     |some y=>
      simp only [hq,Option.map_some,Option.some.injEq] at h
      split at h
      · exact .inl (by rw [h])
      · obtain ⟨v,hv,_⟩:=I.slots u y hq;exact .inr ⟨h.symm,v,hv⟩
 · simp only [St.ec] at h
   rw [bC] at h
   split at h
   · simp at h
   · exact h
 · have h0:=h
   simp only [St.ec] at h
   rw [ry,iG] at h
   split at h
   · simp at h
   · rename_i UE
     split at h
     · rename_i hnb
       refine ⟨h, ?_⟩
       cases p with
       |s u=>
        have zI:u≠t:=fun e=>UE (by rw [e])
        obtain ⟨o,m,cap,cs,e1,_⟩:=I.gE u z h
        show look (st.ec t k).sl u=look st.sl u
        rw [iH,if_neg zI,e1];rfl
       |c j o=>
        have oM:j≠k:=by simpa [Pl.eC] using hnb
        show look (bF st.bx k) j=look st.bx j
        rw [bC,if_neg oM]
     · simp at h
 · simp only [St.ec] at h
   rw [bQ (me k) (fun _ x=>x.bind fun p=>if p.eC k then some p else none) (fun _=>rfl),bC] at h
   split at h
   · simp at h
   · cases hm:look st.tg u with
     |none=>simp [hm] at h
     |some p=>
      simp only [hm,Option.map_some,Option.some.injEq,Option.bind_eq_some_iff] at h
      obtain ⟨p',rfl,h⟩:=h
      split at h
      · simp only [Option.some.injEq] at h;rw [h]
      · simp at h
 · obtain ⟨sz',n',cs',e⟩:=hx
   have EX:x≠t:=fun e2=>by subst e2;rw [heq] at e;simp at e
   exact ⟨sz',n',cs',by rw [iH,if_neg EX,e];rfl⟩
 · have oM:j≠k:=by
     rw [iH] at h
     split at h
     · simp at h
     · cases hq:look st.sl u with
       |none=>simp [hq] at h
       |some y=>
        simp only [hq,Option.map_some,Option.some.injEq] at h
        split at h
        · rename_i hnp
          subst h
          cases y<;>simp_all [ot,ir]
        · subst h;simp [ot] at hj
   show look (bF st.bx k) j=some cs
   rw [bC,if_neg oM];exact e
theorem Inv.freeze (g:Bool) (I:Inv base w Pr bk st a N) {t k off sz n:Nat} {cs:List PV} (heq:look st.sl t=some (.bs k off sz n)) (hk:look st.bx k=some cs):
  ∃aD aN,Inv base w aD aN ((st.ec t k).made (some t) { v:= .pv (.sl sz n ((cs.drop off).take (n* sz))),gr:=wD g off sz}) a N∧Kp w Pr w aD∧(∀b o,b<base→aD b o→Pr b o)∧∀k,aN (.bx k)=bk (.bx k):=by
 have I2:=I.ec heq
 obtain ⟨v,cR,o,cap,cs',c,T,h1,h0,hk',hle,hz,hn,hb,hsz⟩:=I.slots t _ heq
 rw [hk] at hk';cases hk'
 obtain ⟨⟨T2,c2,vs,cc,hpre,hrl,hone⟩,hfree⟩:=I.boxes k cs hk
 rw [hb] at cc;cases cc
 have hown:=I.own (.bx k) ⟨cs,hk⟩
 have Mp:t<N:=by rw [←I.size];exact (Array.getElem?_eq_some_iff.1 cR).1
 have hlen:=hrl.length
 have hnl:∀x,live (st.ec t k) x→bk x≠bk (.bx k):=by
  intro x hx e
  have hl:live st x∧x≠ .bx k:=by
   cases x with
   |bx j=>
    obtain ⟨dG,h⟩:=hx
    have h':look (bF st.bx k) j=some dG:=h
    rw [bC] at h'
    split at h'
    · simp at h'
    · rename_i hj;exact ⟨⟨dG,h'⟩,by simpa using hj⟩
   |sx u=>
    refine ⟨?_,by simp⟩
    rcases hx with ⟨sz',n',cs',h⟩|⟨z,h⟩
    · rw [iH] at h
      split at h
      · simp at h
      · cases hq:look st.sl u with
        |none=>simp [hq] at h
        |some y=>
         simp only [hq,Option.map_some,Option.some.injEq] at h
         split at h
         · subst h;exact .inl ⟨sz',n',cs',hq⟩
         · simp at h
    · simp only [St.ec] at h
      rw [ry,iG] at h
      split at h
      · simp at h
      · split at h
        · exact .inr ⟨z,h⟩
        · simp at h
   |cx j o=>
    refine ⟨?_,by simp⟩
    obtain ⟨z,h⟩:=hx
    simp only [St.ec] at h
    rw [ry,iG] at h
    split at h
    · simp at h
    · split at h
      · exact ⟨z,h⟩
      · simp at h
  exact hl.2 (I.inj x (.bx k) hl.1 ⟨cs,hk⟩ e)
 obtain ⟨aD,fj⟩:∃aD:aC,∀b' o',aD b' o'↔(Pr b' o'∨(b'=bk (.bx k)∧o≤o'∧o'<o+n* sz)):=⟨fun b' o'=>_,fun _ _=>Iff.rfl⟩
 have hK:Kp w Pr w aD:=⟨fun b o h=>(fj b o).2 (.inl h),fun _ _ _=>rfl⟩
 have I3:=I2.wZ (Cx w (bk (.bx k)) ⟨c,T,_,hb⟩) hown.2 hnl hK (fun b' o' h hne=>((fj b' o').1 h).resolve_right (fun h=>hne h.1))
 have hm:dn base w aD bk (st.ec t k) a { v:= .pv (.sl sz n ((cs.drop off).take (n* sz))),gr:=wD g off sz} v:=by
  refine ⟨fun _ _=> ?_,fun _ _ _ h=>by simp at h,fun z dP=> ?_,fun q h=>by simp at h⟩
  · rw [h1]
    show Rp w aD _ _
    by_cases hn0:n=0
    · subst hn0
      simpa using Rp.sl (w:=w) (Pr:=aD) (sz:=sz) (n:=0) (cap:=cap) (b:=bk (.bx k)) (o:=o) .nil (by simp) (by simp) (Nat.zero_le _) (fun j v hj=>by simp at hj) (fun i hi=>by simp at hi)
    · obtain rfl:o=off:=h0.resolve_right (fun h=>hn0 h.1)
      have gW:=iP (dy (iQ hb hpre) o) (n* sz)
      rw [Nat.zero_add] at gW
      exact .sl (aM.mono hK ((hrl.drop o).take (n* sz))) (fun v hv=>hone v (List.mem_of_mem_drop (List.mem_of_mem_take hv))) (by simp;omega) hn gW (fun i hi=>(fj _ _).2 (.inr ⟨rfl,by omega,by simp at hi;omega⟩))
  · cases g with
    |false=>simp [wD] at dP
    |true=>
    simp only [wD] at dP
    split at dP
    · rename_i hoff
      simp only [Option.some.injEq] at dP;subst dP
      have UA:o=0:=by rcases h0 with h0|⟨_,h0⟩<;>omega
      refine ⟨bk (.bx k),o,n,cap,_,rfl,h1,⟨hz,hn,⟨c,T,hb,hsz⟩,fun o' ho=> ?_⟩,UA,hown.1,hown.2,hnl⟩
      rcases (fj _ _).1 ho with ho|ho
      · exact absurd ho (hfree o')
      · omega
    · simp at dP
 obtain ⟨aN,I4,hbk⟩:=I3.iq Mp hm
 rw [tW cR] at I4
 exact ⟨aD,aN,I4,hK,fun b o' hlt h=>((fj b o').1 h).resolve_right (fun h=>by omega),hbk⟩
theorem Inv.fO (g:Bool) (I:Inv base w Pr bk st a N) (t:Nat):∃aD aN,Inv base w aD aN (st.fO g t) a N∧Kp w Pr w aD∧(∀b o,b<base→aD b o→Pr b o)∧∀k,aN (.bx k)=bk (.bx k):=by
 unfold St.fO
 split
 · rename_i sz n cs heq
   obtain ⟨I2,hfree⟩:=I.Lm heq
   obtain ⟨v,cR,o,cap,vs,h1,h2,h3,h4,h5,h6,h7⟩:=I.slots t _ heq
   have hown:=I.own (.sx t) (.inl ⟨sz,n,cs,heq⟩)
   have Mp:t<N:=by rw [←I.size];exact (Array.getElem?_eq_some_iff.1 cR).1
   have hlen:=h2.length
   obtain ⟨aD,fj⟩:∃aD:aC,∀b' o',aD b' o'↔(Pr b' o'∨(b'=bk (.sx t)∧o≤o'∧o'<o+n* sz)):=⟨fun b' o'=>_,fun _ _=>Iff.rfl⟩
   have hK:Kp w Pr w aD:=⟨fun b o h=>(fj b o).2 (.inl h),fun _ _ _=>rfl⟩
   have I3:=I2.wZ (Cx w (bk (.sx t)) (by obtain ⟨c,T,e,_⟩:=h6.there;exact ⟨c,T,_,e⟩)) hown.2 hfree hK (fun b' o' h hne=>((fj b' o').1 h).resolve_right (fun h=>hne h.1))
   have hm:dn base w aD bk { st with sl:=(bF st.sl t).map (dA t)} a { v:= .pv (.sl sz n cs)} v:=by
    refine bu ?_
    rw [h1]
    exact .sl (aM.mono hK h2) h3 h4 h6.le h5 (fun i hi=>(fj _ _).2 (.inr ⟨rfl,by omega,by omega⟩))
   obtain ⟨aN,I4,hbk⟩:=I3.iq Mp hm
   rw [tW cR] at I4
   exact ⟨aD,aN,I4,hK,fun b o' hlt h=>((fj b o').1 h).resolve_right (fun h=>by omega),hbk⟩
 · rename_i k off sz n heq
   split
   · rename_i cs hk
     exact I.freeze g heq hk
   · exact ⟨Pr,bk,I,Kp.refl _ _,fun _ _ _ h=>h,fun _=>rfl⟩
 · exact ⟨Pr,bk,I,Kp.refl _ _,fun _ _ _ h=>h,fun _=>rfl⟩
theorem Good.fO (g:Bool) {w0:World} {aL:aC} (h:Good base w0 aL N aT st a w) (t:Nat):Good base w0 aL N aT (st.fO g t) a w:=by
 obtain ⟨Pr,bk,I,hb,hp,ho,eW,hkc,hdf⟩:=h
 obtain ⟨aD,aN,I',hk,hp',hbk⟩:=I.fO g t
 exact ⟨aD,aN,I',hb,fun b o hlt h=>hp b o hlt (hp' b o hlt h),ho,fun k b e=>(hbk k).trans (eW k b e),fun b o v h1 h2=>by
  obtain ⟨h3,h4⟩:=hkc b o v h1 h2
  exact ⟨hk.pr b o h3,h4⟩,hdf⟩
theorem Good.vK {w0:World} {aL:aC}:∀(l:List Nat) {st:St},Good base w0 aL N aT st a w→Good base w0 aL N aT (l.foldl St.pK st) a w
 |[],_,h=>h
 |t::l,_,h=>Good.vK l (h.fO false t)
theorem u6 (l:List (Nat×AV)) (t:Nat):∀ks:List Nat,look (lV l ks) t=(if ks.contains t then look l t else none).map fun av=>if isRef av then .dead else av
 |[]=>by simp [lV,look]
 |k::ks=>by
  have ih:=u6 l t ks
  simp only [lV]
  by_cases e:k=t
  · subst e
    cases h:look l k with
    |none=>simp only [ih];split<;>simp_all
    |some v=>simp [look,JG]
  · have e2:((k::ks).contains t)=ks.contains t:=by
      have:(t==k)=false:=by simpa using fun h=>e h.symm
      rw [List.contains_cons,this,Bool.false_or]
    rw [e2]
    cases h:look l k with
    |none=>simp only [ih]
    |some v=>simp only [look];rw [if_neg e];exact ih
theorem u5 (l:List (Nat×List PV)) (t:Nat):∀ks:List Nat,look (r8 l ks) t=if ks.contains t then look l t else none
 |[]=>by simp [r8,look]
 |k::ks=>by
  have ih:=u5 l t ks
  simp only [r8]
  by_cases e:k=t
  · subst e
    cases h:look l k with
    |none=>simp only [ih];split<;>simp_all
    |some v=>simp [look]
  · have e2:((k::ks).contains t)=ks.contains t:=by
      have:(t==k)=false:=by simpa using fun h=>e h.symm
      rw [List.contains_cons,this,Bool.false_or]
    rw [e2]
    cases h:look l k with
    |none=>simp only [ih]
    |some v=>simp only [look];rw [if_neg e];exact ih
theorem Fc (l m:List (Pl×Nat)) (p:Pl):aG (l++m) p=(aG l p).or (aG m p):=by
 induction l with
 |nil=>simp [aG]
 |cons x l ih=>
  obtain ⟨k,v⟩:=x
  simp only [List.cons_append,aG]
  split
  · simp
  · exact ih
theorem sY (l:List (Pl×Nat)) (p:Pl):∀ks:List Nat,aG (uV l ks) p=if p.kept ks then aG l p else none
 |[]=>by cases p<;>simp [uV,aG,Pl.kept]
 |k::ks=>by
  have ih:=sY l p ks
  simp only [uV,Fc,ih]
  rw [dY (Pl.of k) l p]
  cases p with
  |s t=>
   by_cases e:t=k
   · subst e
     cases h:aG l (.s t)<;>simp [Pl.of,Pl.kept]
   · have:(t==k)=false:=by simpa using e
     simp [Pl.of,Pl.kept,e]
  |c t o=>
   by_cases e:t=k
   · subst e
     cases h:aG l (.c t o)<;>simp [Pl.of,Pl.kept]
   · have:(t==k)=false:=by simpa using e
     simp [Pl.of,Pl.kept,e]
theorem kS {ks:List Nat}:∀{l:List Nat} {k:Nat},k∈l→ks.contains k=false→k∈oT ks l
 |[],k,h,_=>by simp at h
 |a::l,k,h,hk=>by
  simp only [oT]
  split
  · rename_i hc
    rcases List.mem_cons.1 h with rfl|h
    · rw [hk,Bool.false_or] at hc
      exact kS (by simpa using hc) hk
    · exact kS h hk
  · rcases List.mem_cons.1 h with rfl|h
    · simp
    · exact List.mem_cons_of_mem _ (kS h hk)
theorem vq:∀{l:List (Nat×AV)} {t j:Nat} {av:AV},look l t=some av→j∈ot av→j∈refsOf l
 |[],t,j,av,h,_=>by simp [look] at h
 |(k,v)::l,t,j,av,h,hj=>by
  simp only [look] at h
  simp only [refsOf,List.mem_append]
  split at h
  · simp only [Option.some.injEq] at h;subst h;exact .inl hj
  · exact .inr (vq h hj)
theorem uW {st:St} {ks:List Nat} {k:Nat} (h:ks.contains k=true):(kD st ks).contains k=true:=by
 simp only [kD,List.contains_eq_mem,List.mem_append,decide_eq_true_eq] at h ⊢
 exact .inl h
theorem Bc {st:St} {ks:List Nat} {t j:Nat} {av:AV} (h:look (st.bG ks).sl t=some av) (hj:j∈ot av):(kD st ks).contains j=true:=by
 have h1:=vq (l:=lV st.sl ks) h hj
 cases hc:ks.contains j with
 |true=>exact uW hc
 |false=>
  have:=kS (ks:=ks) (l:=refsOf (lV st.sl ks)++(st.bx.map (·.1)).filter (fun k=>gk≤k)) (List.mem_append_left _ h1) hc
  simp only [kD,List.contains_eq_mem,List.mem_append,decide_eq_true_eq]
  exact .inr this
theorem Good.bG {w0:World} {aL:aC} (h:Good base w0 aL N aT st a w) (ks:List Nat):Good base w0 aL N aT (st.bG ks) a w:=by
 refine h.less fun Pr bk I=> ?_
 have hl:∀t,look (st.bG ks).sl t=(if ks.contains t then look st.sl t else none).map fun av=>if isRef av then .dead else av:=fun t=>u6 st.sl t ks
 have hb:∀k,look (st.bG ks).bx k=if (kD st ks).contains k then look st.bx k else none:=fun k=>u5 st.bx k (kD st ks)
 have hg:∀p,aG (st.bG ks).gr p=if p.kept ks then aG st.gr p else none:=fun p=>sY st.gr p ks
 refine I.less (fun t av ht=> ?_) (fun k cs hk=> ?_) (fun p z hz=> ?_) (fun t q ht=>by simp [St.bG,look] at ht) (fun t u ht _=> ?_) (fun t av j ht hj cs e=> ?_)
 · rw [hl] at ht
   split at ht
   · cases hq:look st.sl t with
     |none=>simp [hq] at ht
     |some x=>
      simp only [hq,Option.map_some,Option.some.injEq] at ht
      split at ht
      · obtain ⟨v,hv,_⟩:=I.slots t x hq;exact .inr ⟨ht.symm,v,hv⟩
      · exact .inl (by rw [ht])
   · simp at ht
 · rw [hb] at hk;split at hk
   · exact hk
   · simp at hk
 · rw [hg] at hz
   split at hz
   · rename_i hkp
     refine ⟨hz, ?_⟩
     cases p with
     |s t=>
      simp only [Pl.kept] at hkp
      obtain ⟨o,n,cap,cs,h1,_⟩:=I.gE t z hz
      show look (st.bG ks).sl t=look st.sl t
      rw [hl,if_pos hkp,h1];rfl
     |c k o=>
      simp only [Pl.kept] at hkp
      show look (st.bG ks).bx k=look st.bx k
      rw [hb,if_pos (uW hkp)]
   · simp at hz
 · exfalso
   rcases ht with ht|⟨off,ht⟩<;>
   · rw [hl] at ht
     split at ht
     · cases hq:look st.sl t with
       |none=>simp [hq] at ht
       |some x=>simp only [hq,Option.map_some,Option.some.injEq] at ht;split at ht<;>simp_all [isRef]
     · simp at ht
 · rw [hb,if_pos (Bc ht hj)];exact e
end
end Go.Proofs.YtibbgjafjhcemaaGreatDoor.Cul
namespace Go.Proofs.YtibbgjafjhcemaaGreatDoor.Cul
open Go Go.RowKit
structure n8 (o:Oper) (st st':St):Prop where
 ev:∀x∈o.op.operands.toList,∀av,st.ev x=some av→(∀cs s,av≠ .bV cs s)→st'.ev x=some av
 ex:∀u sz n cs,look st.sl u=some (.ex sz n cs)→look st'.sl u=some (.ex sz n cs)
 bx:st'.bx=st.bx
 gr:st'.gr=st.gr
 tg:∀t,Operand.tmp t∈o.op.operands.toList→st'.tag t=st.tag t
section
variable {P:Program} {call:Cl} {o:Oper} {st st':St}
theorem Fy {x:Operand} (h:∀av,st.ev x=some av→(∀cs s,av≠ .bV cs s)→st'.ev x=some av) {p:PV} (hp:st.pv x=some p):st'.pv x=some p:=by
 have:=h _ (yy hp) (by simp)
 simp [St.pv,this]
theorem n8.pv (S:n8 o st st') {x:Operand} (hx:x∈o.op.operands.toList) {p:PV} (hp:st.pv x=some p):st'.pv x=some p:=Fy (S.ev x hx) hp
theorem n8.val (S:n8 o st st') {x:Operand} (hx:x∈o.op.operands.toList) {v:Value} (h:st.val x=some v):st'.val x=some v:=by
 simp only [St.val,Option.bind_eq_some_iff] at h ⊢
 obtain ⟨p,h1,h2⟩:=h
 exact ⟨p,S.pv hx h1,h2⟩
theorem n8.int (S:n8 o st st') {x:Operand} (hx:x∈o.op.operands.toList) {n:Int} (h:(st.pv x).bind cg=some n):(st'.pv x).bind cg=some n:=by
 simp only [Option.bind_eq_some_iff] at h ⊢
 obtain ⟨p,h1,h2⟩:=h
 exact ⟨p,S.pv hx h1,h2⟩
theorem mX:∀(l:List (Nat×Operand)) (r:List (Nat×PV)),(∀x∈l.map (·.2),∀av,st.ev x=some av→(∀cs s,av≠ .bV cs s)→st'.ev x=some av)→partsOf st l=some r→partsOf st' l=some r
 |[],r,h,hp=>by simpa [partsOf] using hp
 |(i,x)::l,r,h,hp=>by
  simp only [partsOf,Option.bind_eq_some_iff] at hp ⊢
  obtain ⟨p,h1,h2⟩:=hp
  refine ⟨p,Fy (h x (by simp)) h1, ?_⟩
  split at h2
  · simp at h2
  · rename_i hn
    rw [if_neg hn]
    simp only [Option.map_eq_some_iff] at h2 ⊢
    obtain ⟨q,h3,h4⟩:=h2
    exact ⟨q,mX l q (fun y hy=>h y (by simp at hy ⊢;exact .inr hy)) h3,h4⟩
theorem qK (h:st'.bx=st.bx):∀l,dF st' l=dF st l
 |[]=>rfl
 | .pv p::l=>by simp [dF,qK h l]
 | .bp k off::l=>by simp [dF,qK h l,h]
theorem yP (h:st'.bx=st.bx):∀av,st'.eG av=st.eG av
 | .pv p=>rfl
 | .bp k off=>by simp [St.eG,h]
 | .cl f caps=>by simp [St.eG,qK h]
 | .ex .. =>rfl
 | .xr .. =>rfl
 | .xe .. =>rfl
 | .bV .. =>rfl
 | .dead=>rfl
 | .bs .. =>by simp [St.eG,h]
 | .mv .. =>rfl
 | .tg .. =>rfl
theorem oa (hb:st'.bx=st.bx):∀(l:List Operand) (r:List PV),(∀x∈l,∀av,st.ev x=some av→(∀cs s,av≠ .bV cs s)→st'.ev x=some av)→eo st l=some r→eo st' l=some r∧∀x∈l,st'.ev x=st.ev x
 |[],r,h,hp=>⟨by simpa [eo] using hp,by simp⟩
 |x::l,r,h,hp=>by
  simp only [eo,Option.bind_eq_some_iff,Option.map_eq_some_iff] at hp ⊢
  obtain ⟨p,⟨av,h0,h1⟩,q,h3,h4⟩:=hp
  have hx:=h x (by simp) av h0 (fun cs s e=>by subst e;simp [St.eG] at h1)
  obtain ⟨i1,i2⟩:=oa hb l q (fun y hy=>h y (by simp;exact .inr hy)) h3
  refine ⟨⟨p,⟨av,hx,by rw [yP hb];exact h1⟩,q,i1,h4⟩,fun y hy=> ?_⟩
  rcases List.mem_cons.1 hy with rfl|hy
  · rw [hx,h0]
  · exact i2 y hy
theorem nD:∀(l:List Operand) (r:List Cap),(∀x∈l,∀av,st.ev x=some av→(∀cs s,av≠ .bV cs s)→st'.ev x=some av)→ew st l=some r→ew st' l=some r
 |[],r,h,hp=>by simpa [ew] using hp
 |x::l,r,h,hp=>by
  simp only [ew] at hp ⊢
  have ih:=nD l
  split at hp
  · rename_i p heq
    rw [h x (by simp) _ heq (by simp)]
    simp only [Option.map_eq_some_iff] at hp ⊢
    obtain ⟨q,h3,h4⟩:=hp
    exact ⟨q,ih q (fun y hy=>h y (by simp;exact .inr hy)) h3,h4⟩
  · rename_i k off heq
    rw [h x (by simp) _ heq (by simp)]
    simp only [Option.map_eq_some_iff] at hp ⊢
    obtain ⟨q,h3,h4⟩:=hp
    exact ⟨q,ih q (fun y hy=>h y (by simp;exact .inr hy)) h3,h4⟩
  · simp at hp
theorem Dx (S:n8 o st st') {m:Made} (h:quiet P call o st=some m):quiet P call o st'=some m:=by
 cases ho:o.op with
 |move x=>
  have hx:x∈o.op.operands.toList:=by simp [ho,Op.operands]
  simp only [quiet,ho] at h ⊢
  have key:=S.ev x hx
  have EU:∀t,x= .tmp t→st'.tag t=st.tag t:=fun t e=>S.tg t (e ▸hx)
  cases he:st.ev x with
  |none=>rw [he] at h;cases x<;>simp at h
  |some av=>
   rw [he] at h
   cases av with
   |bV cs s=>cases x<;>simp at h
   |_=>
    rw [key _ he (by simp)]
    cases x with
    |tmp t=>simpa [S.gr,EU t rfl] using h
    |_=>exact h
 |pick c x y=>
  simp only [quiet,ho,Option.bind_eq_some_iff] at h ⊢
  obtain ⟨v,hc,h⟩:=h
  refine ⟨v,S.val (by simp [ho,Op.operands]) hc, ?_⟩
  split at h
  · rename_i b
    simp only [Option.map_eq_some_iff] at h ⊢
    obtain ⟨p,hp,h⟩:=h
    refine ⟨p,S.pv ?_ hp,h⟩
    cases b<;>simp [ho,Op.operands]
  · simp at h
 |binOp op t x y u=>
  simp only [quiet,ho,Option.bind_eq_some_iff] at h ⊢
  obtain ⟨v,hc,v2,gl,h⟩:=h
  exact ⟨v,S.val (by simp [ho,Op.operands]) hc,v2,S.val (by simp [ho,Op.operands]) gl,h⟩
 |unOp op t x=>
  simp only [quiet,ho,Option.bind_eq_some_iff] at h ⊢
  obtain ⟨v,hc,h⟩:=h
  exact ⟨v,S.val (by simp [ho,Op.operands]) hc,h⟩
 |convert s d x=>
  simp only [quiet,ho] at h ⊢
  cases hp:st.pv x with
  |none=>rw [hp] at h;simp at h
  |some p=>rw [hp] at h;rw [S.pv (by simp [ho,Op.operands]) hp];exact h
 |fieldAddr s x f=>
  simp only [quiet,ho,Option.bind_eq_some_iff] at h ⊢
  obtain ⟨v,hc,h⟩:=h
  refine ⟨v,hc, ?_⟩
  have key:=S.ev x (by simp [ho,Op.operands])
  split at h
  · rename_i he;rw [key _ he (by simp)];exact h
  · rename_i he;rw [key _ he (by simp)];exact h
  · rename_i he;rw [key _ he (by simp)];exact h
  · simp at h
 |field s x f=>
  simp only [quiet,ho,Option.bind_eq_some_iff] at h ⊢
  obtain ⟨v,hc,h⟩:=h
  refine ⟨v,hc, ?_⟩
  cases hp:st.pv x with
  |none=>rw [hp] at h;simp at h
  |some p=>rw [hp] at h;rw [S.pv (by simp [ho,Op.operands]) hp];exact h
 |indexAddr t x i=>
  simp only [quiet,ho] at h ⊢
  rw [Option.bind_eq_some_iff] at h ⊢
  obtain ⟨n,hn,h⟩:=h
  refine ⟨n,S.int (by simp [ho,Op.operands]) hn, ?_⟩
  have key:=S.ev x (by simp [ho,Op.operands])
  split at h
  · rw [Option.bind_eq_some_iff] at h ⊢
    obtain ⟨s,hs,h⟩:=h
    refine ⟨s,hs, ?_⟩
    split at h
    · rename_i hc;rw [if_pos hc]
      split at h
      · rename_i he;rw [key _ he (by simp)];exact h
      · rename_i he;rw [key _ he (by simp)];exact h
      · simp at h
    · simp at h
  · rw [Option.bind_eq_some_iff] at h ⊢
    obtain ⟨s,hs,h⟩:=h
    refine ⟨s,hs, ?_⟩
    split at h
    · rename_i he;rw [key _ he (by simp)];exact h
    · rename_i he;rw [key _ he (by simp)]
      simp only
      split at h
      · rename_i nJ;rw [S.ex _ _ _ _ nJ];exact h
      · simp at h
    · rename_i he;rw [key _ he (by simp)];exact h
    · simp at h
  · simp at h
 |index t x i=>
  simp only [quiet,ho] at h ⊢
  split at h
  · rename_i len e cs hu hp
    rw [hu,S.pv (by simp [ho,Op.operands]) hp]
    simp only
    rw [Option.bind_eq_some_iff] at h ⊢
    obtain ⟨n,hn,h⟩:=h
    exact ⟨n,S.int (by simp [ho,Op.operands]) hn,h⟩
  · rename_i hno
    simp only [Option.bind_eq_some_iff] at h
    obtain ⟨v,hc,v2,gl,h⟩:=h
    have hx:x∈o.op.operands.toList:=by simp [ho,Op.operands]
    have hi:i∈o.op.operands.toList:=by simp [ho,Op.operands]
    have e:st'.pv x=st.pv x:=by
     simp only [St.val,Option.bind_eq_some_iff] at hc
     obtain ⟨p,h1,h2⟩:=hc
     rw [h1,S.pv hx h1]
    rw [e]
    split
    · rename_i len e cs hu hp;exact absurd hp (hno len e cs hu)
    · simp only [Option.bind_eq_some_iff]
      exact ⟨v,S.val hx hc,v2,S.val hi gl,h⟩
 |load t x=>
  simp only [quiet,ho] at h ⊢
  have key:=S.ev x (by simp [ho,Op.operands])
  split at h
  · rename_i he;rw [key _ he (by simp)];simp only;rw [S.bx,S.gr];exact h
  · rename_i he;rw [key _ he (by simp)];exact h
  · rename_i he;rw [key _ he (by simp)]
    simp only
    split at h
    · rename_i nJ;rw [S.ex _ _ _ _ nJ];exact h
    · simp at h
  · simp at h
 |build t ps=>
  simp only [quiet,ho] at h ⊢
  split at h
  · rename_i z ps' hz hp
    rw [hz,mX (st':=st') _ _ (fun x hx=>S.ev x (by simpa [ho,Op.operands] using hx)) hp]
    exact h
  · simp at h
 |buildSlice t n ps=>
  simp only [quiet,ho] at h ⊢
  split at h
  · rw [Option.bind_eq_some_iff] at h ⊢
    obtain ⟨s,hs,h⟩:=h
    refine ⟨s,hs, ?_⟩
    rw [Option.bind_eq_some_iff] at h ⊢
    obtain ⟨z,hz,h⟩:=h
    refine ⟨z,hz, ?_⟩
    split at h
    · rename_i hc;rw [if_pos hc]
      rw [Option.bind_eq_some_iff] at h ⊢
      obtain ⟨q,hp,h⟩:=h
      exact ⟨q,mX (st':=st') _ _ (fun x hx=>S.ev x (by simpa [ho,Op.operands] using hx)) hp,h⟩
    · simp at h
  · simp at h
 |extract x i=>
  simp only [quiet,ho] at h ⊢
  have key:=S.ev x (by simp [ho,Op.operands])
  split at h
  · rename_i hp;rw [key _ hp (by simp)];exact h
  · rename_i hp;rw [key _ hp (by simp)];exact h
  · simp at h
 |slice t x lo hi mx=>
  simp only [quiet,ho] at h ⊢
  have hx:x∈o.op.operands.toList:=by simp [ho,Op.operands]
  have hlo:∀l,lo=some l→l∈o.op.operands.toList:=fun l e=>by subst e;simp [ho,Op.operands]
  have hhi:∀l,hi=some l→l∈o.op.operands.toList:=fun l e=>by subst e;simp [ho,Op.operands]
  have key:=S.ev x hx
  split at h
  · rename_i hp;rw [key _ hp (by simp)]
    simp only
    split at h
    · rename_i e hu
      split at h
      · rename_i hc;rw [if_pos hc]
        rw [Option.bind_eq_some_iff] at h ⊢
        obtain ⟨b,hb,h⟩:=h
        refine ⟨b, ?_, ?_⟩
        · cases hi with
          |none=>exact hb
          |some y=>exact S.int (hhi y rfl) hb
        · rw [Option.bind_eq_some_iff] at h ⊢
          obtain ⟨c,hc,h⟩:=h
          refine ⟨c, ?_,h⟩
          cases lo with
          |none=>exact hc
          |some y=>exact S.int (hlo y rfl) hc
      · simp at h
    · simp at h
  · rename_i hp;rw [key _ hp (by simp)]
    simp only
    split at h
    · rename_i e hu
      split at h
      · rename_i hc;rw [if_pos hc]
        rw [Option.bind_eq_some_iff] at h ⊢
        obtain ⟨b,hb,h⟩:=h
        refine ⟨b, ?_, ?_⟩
        · cases hi with
          |none=>exact hb
          |some y=>exact S.int (hhi y rfl) hb
        · rw [Option.bind_eq_some_iff] at h ⊢
          obtain ⟨c,hc,h⟩:=h
          refine ⟨c, ?_,h⟩
          cases lo with
          |none=>exact hc
          |some y=>exact S.int (hlo y rfl) hc
      · simp at h
    · simp at h
  · rename_i p hno hp
    rw [key _ hp (by simp)]
    cases p with
    |sl sz n cs=>exact absurd rfl (hno sz n cs)
    |_=>
     simp only at h ⊢
     rw [Option.bind_eq_some_iff] at h ⊢
     obtain ⟨b,hb,h⟩:=h
     refine ⟨b,hb, ?_⟩
     cases mx with
     |some z=>cases lo<;>cases hi<;>simp at h
     |none=>
      cases lo with
      |none=>
       cases hi with
       |none=>exact h
       |some y=>
        simp only [Option.bind_eq_some_iff] at h ⊢
        obtain ⟨v,hv,h⟩:=h
        exact ⟨v,S.val (hhi y rfl) hv,h⟩
      |some l=>
       cases hi with
       |none=>
        simp only [Option.bind_eq_some_iff] at h ⊢
        obtain ⟨v,hv,h⟩:=h
        exact ⟨v,S.val (hlo l rfl) hv,h⟩
       |some y=>
        simp only [Option.bind_eq_some_iff] at h ⊢
        obtain ⟨v,hv,v2,eJ,h⟩:=h
        exact ⟨v,S.val (hlo l rfl) hv,v2,S.val (hhi y rfl) eJ,h⟩
  · simp at h
 |makeFunc f fi ca=>
  cases f with
  |func f=>
   simp only [quiet,ho] at h ⊢
   split at h
   · simp only [Option.map_eq_some_iff] at h ⊢
     obtain ⟨q,hp,h⟩:=h
     exact ⟨q,nD (st':=st') _ _ (fun x hx=>S.ev x (by simp [ho,Op.operands];exact .inr (by simpa using hx))) hp,h⟩
   · rename_i x Ul BO
     have key:=S.ev x (by
      have:x∈fi.toList:=by rw [Ul];simp
      simp [ho,Op.operands];exact .inl (by simpa using this))
     split at h
     · rename_i he;rw [key _ he (by simp)];exact h
     · simp at h
   · simp at h
  |_=>simp [quiet,ho] at h
 |nilCheck x=>
  simp only [quiet,ho] at h ⊢
  have key:=S.ev x (by simp [ho,Op.operands])
  split at h
  · rename_i he;rw [key _ he (by simp)];exact h
  · rename_i he;rw [key _ he (by simp)];exact h
  · rename_i he;rw [key _ he (by simp)];exact h
  · simp at h
 |call c=>
  obtain ⟨callee,args,ts⟩:=c
  cases callee with
  |value g=>
   simp only [quiet,ho] at h ⊢
   have key:=S.ev g (by simp [ho,Op.operands,Call.operands])
   split at h
   · rename_i v he
     simp only [Option.bind_eq_some_iff] at h
     obtain ⟨p,hp,h⟩:=h
     rw [key _ he (fun cs s e=>by subst e;simp [St.eG] at hp)]
     simp only [Option.bind_eq_some_iff]
     refine ⟨p,by rw [yP S.bx];exact hp, ?_⟩
     split at h
     · simp only [Option.bind_eq_some_iff] at h ⊢
       obtain ⟨q,hq,h⟩:=h
       obtain ⟨i1,i2⟩:=oa (st':=st') S.bx _ _ (fun x hx=>S.ev x (by simp [ho,Op.operands,Call.operands];exact .inr (by simpa using hx))) hq
       refine ⟨q,i1, ?_⟩
       have:(args.toList.any fun x=>((st'.ev x).map bY).getD true)=(args.toList.any fun x=>((st.ev x).map bY).getD true):=by
        rw [Bool.eq_iff_iff]
        simp only [List.any_eq_true]
        constructor
        · rintro ⟨x,hx,hh⟩;exact ⟨x,hx,by rw [←i2 x hx];exact hh⟩
        · rintro ⟨x,hx,hh⟩;exact ⟨x,hx,by rw [i2 x hx];exact hh⟩
       have e2:=this
       simp only [Array.any_toList] at e2
       simp only [Array.any_toList] at h ⊢
       rw [e2];exact h
     · simp at h
   · simp at h
  |builtin b=>
   cases b with
   |len=>
    simp only [quiet,ho] at h ⊢
    split at h
    · rename_i x hx
      have hm:x∈o.op.operands.toList:=by
       have:x∈args.toList:=by rw [hx];simp
       simp [ho,Op.operands,Call.operands];simpa using this
      have key:=S.ev x hm
      split at h
      · rename_i he;rw [key _ he (by simp)];exact h
      · rename_i he;rw [key _ he (by simp)]
        simp only
        split at h
        · rename_i nJ hu;rw [S.ex _ _ _ _ nJ,hu];exact h
        · simp at h
      · rename_i he;rw [key _ he (by simp)];exact h
      · rename_i p hno he;rw [key _ he (by simp)]
        cases p with
        |sl sz n cs=>exact absurd rfl (hno sz n cs)
        |_=>exact h
      · simp at h
    · simp at h
   |max=>
    simp only [quiet,ho] at h ⊢
    split at h
    · rename_i x y hx
      have hm:x∈args.toList∧y∈args.toList:=by rw [hx];simp
      simp only [Option.bind_eq_some_iff] at h ⊢
      obtain ⟨v,hv,v2,eJ,h⟩:=h
      exact ⟨v,S.val (by simp [ho,Op.operands,Call.operands];simpa using hm.1) hv,v2,S.val (by simp [ho,Op.operands,Call.operands];simpa using hm.2) eJ,h⟩
    · simp at h
   |min=>
    simp only [quiet,ho] at h ⊢
    split at h
    · rename_i x y hx
      have hm:x∈args.toList∧y∈args.toList:=by rw [hx];simp
      simp only [Option.bind_eq_some_iff] at h ⊢
      obtain ⟨v,hv,v2,eJ,h⟩:=h
      exact ⟨v,S.val (by simp [ho,Op.operands,Call.operands];simpa using hm.1) hv,v2,S.val (by simp [ho,Op.operands,Call.operands];simpa using hm.2) eJ,h⟩
    · simp at h
   |_=>simp [quiet,ho] at h
  |invoke r n=>simp [quiet,ho] at h
 |_=>simp [quiet,ho] at h
end
end Go.Proofs.YtibbgjafjhcemaaGreatDoor.Cul
namespace Go.Proofs.YtibbgjafjhcemaaGreatDoor.Cul
open Go Go.RowKit
section
variable {P:Program} {base:Nat} {w:World} {Pr:aC} {bk:Key→Nat} {st:St} {a:Act} {N:Nat}
theorem Inv.Ox (I:Inv base w Pr bk st a N) {NS:List (Nat×Option Pl)} (h:∀t q,look NS t=some (some q)→tM st q→look st.tg t=some (some q)):Inv base w Pr bk { st with tg:=NS} a N:=
 ⟨I.size,I.defers,I.hb,I.bH,fun t av ht=>(by
   obtain ⟨v,hv,hr⟩:=I.slots t av ht
   exact ⟨v,hv,by cases av<;>exact hr⟩),fun x hx=>I.own x (by cases x<;>exact hx),fun x y hx hy=>I.inj x y (by cases x<;>exact hx) (by cases y<;>exact hy),I.boxes,I.gE,I.ig,fun t q ht hq=>I.tags t q (h t q ht hq) hq⟩
theorem jN (st:St) (d:Nat) (m:Made) (t:Nat):look (st.gu (some d) m).sl t=if t=d then some m.v else look st.sl t:=by
 simp only [St.gu,look]
 by_cases h:t=d
 · simp [h]
 · rw [if_neg (Ne.symm h),bC,if_neg h,if_neg h]
theorem j5 (st:St) (d:Nat) (m:Made) (t:Nat):look (st.gu (some d) m).tg t=if t=d then some m.tg else look st.tg t:=by
 simp only [St.gu,look]
 by_cases h:t=d
 · simp [h]
 · rw [if_neg (Ne.symm h),bC,if_neg h,if_neg h]
theorem tc {d t:Nat} {av:AV} {v:Value} (hr:bn d av=true) (h:dD st a w Pr bk t av v):dS st d:=by
 cases av with
 |xr u=>simp only [bn,decide_eq_true_eq] at hr;subst hr;exact h.2
 |xe u off=>simp only [bn,decide_eq_true_eq] at hr;subst hr;exact h.2
 |_=>simp [bn] at hr
theorem Inv.gu (I:Inv base w Pr bk st a N) {d:Nat} (hd:d<N) (zx:aG st.gr (.s d)=none) (xw:¬dS st d) {m:Made} {v:Value} (hm:dn base w Pr bk st a m v) (dJ:m.gr=none) (hex:∀sz n cs,m.v≠ .ex sz n cs):
  ∃aN,Inv base w Pr aN (st.gu (some d) m) (a.put (some d) v) N∧(∀x,live (st.gu (some d) m) x→live st x∧aN x=bk x)∧∀k,aN (.bx k)=bk (.bx k):=by
 obtain ⟨aN,I1,hbk⟩:=I.made hd hm
 have Uy:=hm.val hex d
 have C8:∀t av,(if t=d then some m.v else look st.sl t)=some av→bn d av=false:=by
  intro t av h
  cases e:bn d av with
  |false=>rfl
  |true=>
   exfalso
   split at h
   · simp only [Option.some.injEq] at h;subst h
     exact xw (tc e Uy)
   · obtain ⟨u,_,hr⟩:=I.slots t av h
     exact xw (tc e hr)
 have mP:∀t,look (st.made (some d) m).sl t=look (st.gu (some d) m).sl t:=by
  intro t
  rw [jM,jN]
  cases e:(if t=d then some m.v else look st.sl t) with
  |none=>rfl
  |some av=>simp [C8 t av e]
 have Qu:∀p,aG (st.made (some d) m).gr p=aG (st.gu (some d) m).gr p:=by
  intro p
  rw [fM]
  show _=aG st.gr p
  split
  · rename_i e;rw [e,zx,dJ]
  · rfl
 have I2:=I1.Ox (NS:=(st.gu (some d) m).tg) (fun t q h hq=>by
  have UI:q≠ .s d:=by
   intro e;subst e
   obtain ⟨z,hz⟩:=hq
   rw [fM,if_pos rfl,dJ] at hz;simp at hz
  rw [j5] at h
  rw [uZ]
  split
  · rename_i e;rw [if_pos e] at h;simp only [Option.some.injEq] at h;rw [h];rfl
  · rename_i e;rw [if_neg e] at h;rw [h];simp [UI])
 have I3:Inv base w Pr aN (st.gu (some d) m) (a.put (some d) v) N:=by
  refine I2.less (fun t av h=> .inl ?_) (fun k cs h=>h) (fun p z h=>⟨?_, ?_⟩) (fun t q h=>h) (fun t u _ hx=> ?_) (fun _ _ _ _ _ _ e=>e)
  · show look (st.made (some d) m).sl t=some av
    rw [mP];exact h
  · show aG (st.made (some d) m).gr p=some z
    rw [Qu];exact h
  · cases p with
    |s t=>exact (mP t).symm
    |c k o=>rfl
  · obtain ⟨sz,n,cs,hx⟩:=hx
    exact ⟨sz,n,cs,(mP u).symm.trans hx⟩
 refine ⟨aN,I3,fun x hx=> ?_,fun k=>hbk _ (by simp)⟩
 have Pv:x≠ .sx d∧live st x:=by
  cases x with
  |bx k=>exact ⟨by simp,hx⟩
  |cx k o=>exact ⟨by simp,hx⟩
  |sx t=>
   rcases hx with ⟨sz,n,cs,hx⟩|⟨z,hx⟩
   · rw [jN] at hx
     by_cases e:t=d
     · rw [if_pos e] at hx;exact absurd (Option.some.inj hx) (hex sz n cs)
     · rw [if_neg e] at hx;exact ⟨by simpa using e, .inl ⟨sz,n,cs,hx⟩⟩
   · by_cases e:t=d
     · subst e;exact absurd (show aG st.gr (.s t)=some z from hx) (by rw [zx];simp)
     · exact ⟨by simpa using e, .inr ⟨z,hx⟩⟩
 exact ⟨Pv.2,hbk x Pv.1⟩
def fR:AV→AV
 | .bV _ _=> .dead
 |v=>v
structure Told (P:Program) (call:Cl) (ops:List Oper) (st:St) (n:Nat) (bA:Nat→Nat) (ms:Nat→Made) (sT:Nat→St):Prop where
 dst:∀i,i<n→∃o,ops[i]? =some o∧o.dst=some (bA i)
 step:∀i,i<n→∀o,ops[i]? =some o→∃b,dZ ops o (sT i)=some b∧(b=true→eS P call o (sT i)=some (ms i))∧(b=false→ms i={ v:=fA})
 done:∀i,i≤n→∀j,j<i→look (sT i).sl (bA j)=some (ms j).v∧look (sT i).tg (bA j)=some (ms j).tg
 rest:∀i,i≤n→∀t,(∀j,j<i→bA j≠t)→look (sT i).sl t=look st.sl t∧look (sT i).tg t=look st.tg t
 bx:∀i,i≤n→(sT i).bx=st.bx∧(sT i).gr=st.gr
theorem told {call:Cl} {ops:List Oper} {s:St} {bA:Nat→Nat}:∀(l:List Oper) (st:St),(∀i o,l[i]? =some o→o.dst=some (bA i))→(∀i j,i<l.length→j<l.length→bA i=bA j→i=j)→
  jU P call ops l st=some s→∃(ms:Nat→Made) (sT:Nat→St),sT l.length=s∧sT 0=st∧
   (∀i,i<l.length→∀o,l[i]? =some o→∃b,dZ ops o (sT i)=some b∧(b=true→eS P call o (sT i)=some (ms i))∧(b=false→ms i={ v:=fA}))∧
   (∀i,i≤l.length→∀j,j<i→look (sT i).sl (bA j)=some (ms j).v∧look (sT i).tg (bA j)=some (ms j).tg)∧
   (∀i,i≤l.length→∀t,(∀j,j<i→bA j≠t)→look (sT i).sl t=look st.sl t∧look (sT i).tg t=look st.tg t)∧
   (∀i,i≤l.length→(sT i).bx=st.bx∧(sT i).gr=st.gr):=by
 intro l
 suffices H:∀(l:List Oper) (pre:List Oper) (o8 st:St) (ms:Nat→Made) (sT:Nat→St),(∀i o,(pre++l)[i]? =some o→o.dst=some (bA i))→(∀i j,i<(pre++l).length→j<(pre++l).length→bA i=bA j→i=j)→
   sT pre.length=st→sT 0=o8→
   (∀i,i<pre.length→∀o,pre[i]? =some o→∃b,dZ ops o (sT i)=some b∧(b=true→eS P call o (sT i)=some (ms i))∧(b=false→ms i={ v:=fA}))→
   (∀i,i≤pre.length→∀j,j<i→look (sT i).sl (bA j)=some (ms j).v∧look (sT i).tg (bA j)=some (ms j).tg)→
   (∀i,i≤pre.length→∀t,(∀j,j<i→bA j≠t)→look (sT i).sl t=look o8.sl t∧look (sT i).tg t=look o8.tg t)→
   (∀i,i≤pre.length→(sT i).bx=o8.bx∧(sT i).gr=o8.gr)→jU P call ops l st=some s→
   ∃(ms:Nat→Made) (sT:Nat→St),sT (pre++l).length=s∧sT 0=o8∧
   (∀i,i<(pre++l).length→∀o,(pre++l)[i]? =some o→∃b,dZ ops o (sT i)=some b∧(b=true→eS P call o (sT i)=some (ms i))∧(b=false→ms i={ v:=fA}))∧
   (∀i,i≤(pre++l).length→∀j,j<i→look (sT i).sl (bA j)=some (ms j).v∧look (sT i).tg (bA j)=some (ms j).tg)∧
   (∀i,i≤(pre++l).length→∀t,(∀j,j<i→bA j≠t)→look (sT i).sl t=look o8.sl t∧look (sT i).tg t=look o8.tg t)∧
   (∀i,i≤(pre++l).length→(sT i).bx=o8.bx∧(sT i).gr=o8.gr) by
  intro st h1 h2 h
  have:=H l [] st st (fun _=>{ v:= .dead}) (fun _=>st) (by simpa using h1) (by simpa using h2) rfl rfl (by simp) (fun i hi j hj=>by simp at hi;omega) (fun i hi t _=>⟨rfl,rfl⟩) (fun _ _=>⟨rfl,rfl⟩) h
  simpa using this
 clear l
 intro l
 induction l with
 |nil=>
  intro pre o8 st ms sT h1 h2 e1 e2 p1 p2 p3 p4 h
  simp only [jU,Option.some.injEq] at h
  subst h
  simp only [List.append_nil]
  exact ⟨ms,sT,e1,e2,p1,p2,p3,p4⟩
 |cons o l ih=>
  intro pre o8 st ms sT h1 h2 e1 e2 p1 p2 p3 p4 h
  simp only [jU,Option.bind_eq_some_iff] at h
  obtain ⟨b,hb,h⟩:=h
  have LV:o.dst=some (bA pre.length):=h1 pre.length o (by simp)
  obtain ⟨mk,hmk,hrun⟩:∃mk:Made,((b=true→eS P call o st=some mk)∧(b=false→mk={ v:=fA}))∧jU P call ops l (st.gu o.dst mk)=some s:=by
   cases b with
   |true=>
    simp only [Option.bind_eq_some_iff] at h
    obtain ⟨m,hm,h⟩:=h
    exact ⟨m,⟨fun _=>hm,fun h=>by simp at h⟩,h⟩
   |false=>exact ⟨_,⟨fun h=>by simp at h,fun _=>rfl⟩,h⟩
  rw [LV] at hrun
  have hne:∀j,j<pre.length→bA j≠bA pre.length:=fun j hj e=>by
   have:=h2 j pre.length (by simp;omega) (by simp) e
   omega
  obtain ⟨ms',Ho,Hp⟩:∃ms':Nat→Made,(∀j,j<pre.length→ms' j=ms j)∧ms' pre.length=mk:=⟨fun j=>if j<pre.length then ms j else mk,fun j hj=>if_pos hj,if_neg (by omega)⟩
  obtain ⟨JE,hs1,jl⟩:∃JE:Nat→St,(∀j,j≤pre.length→JE j=sT j)∧JE (pre.length+1)=st.gu (some (bA pre.length)) mk:=⟨fun j=>if j≤pre.length then sT j else st.gu (some (bA pre.length)) mk,fun j hj=>if_pos hj,if_neg (by omega)⟩
  have key:=ih (pre++[o]) o8 (st.gu (some (bA pre.length)) mk) ms' JE (by simpa using h1) (by simpa using h2) (by simpa using jl) (by rw [hs1 0 (by omega),e2])
   (fun i hi o' ho'=>by
    simp only [List.length_append,List.length_singleton] at hi
    by_cases e:i=pre.length
    · subst e
      simp at ho';subst ho'
      refine ⟨b, ?_, ?_, ?_⟩
      · rw [hs1 _ (Nat.le_refl _),e1];exact hb
      · rw [hs1 _ (Nat.le_refl _),e1,Hp];exact hmk.1
      · rw [Hp];exact hmk.2
    · rw [List.getElem?_append_left (by omega)] at ho'
      rw [hs1 i (by omega),Ho i (by omega)]
      exact p1 i (by omega) o' ho')
   (fun i hi j hj=>by
    simp only [List.length_append,List.length_singleton] at hi
    by_cases e:i=pre.length+1
    · subst e
      rw [jl,jN,j5]
      by_cases ej:j=pre.length
      · subst ej;rw [if_pos rfl,if_pos rfl,Hp];exact ⟨rfl,rfl⟩
      · rw [if_neg (hne j (by omega)),if_neg (hne j (by omega)),Ho j (by omega),←e1]
        exact p2 pre.length (Nat.le_refl _) j (by omega)
    · rw [hs1 i (by omega),Ho j (by omega)]
      exact p2 i (by omega) j hj)
   (fun i hi t ht=>by
    simp only [List.length_append,List.length_singleton] at hi
    by_cases e:i=pre.length+1
    · subst e
      have h0:t≠bA pre.length:=fun e=>ht pre.length (by omega) e.symm
      rw [jl,jN,j5,if_neg h0,if_neg h0,←e1]
      exact p3 pre.length (Nat.le_refl _) t (fun j hj=>ht j (by omega))
    · rw [hs1 i (by omega)]
      exact p3 i (by omega) t ht)
   (fun i hi=>by
    simp only [List.length_append,List.length_singleton] at hi
    by_cases e:i=pre.length+1
    · subst e
      rw [jl]
      have:=p4 pre.length (Nat.le_refl _)
      rw [e1] at this
      exact this
    · rw [hs1 i (by omega)]
      exact p4 i (by omega))
   hrun
  simpa using key
end
end Go.Proofs.YtibbgjafjhcemaaGreatDoor.Cul
namespace Go.Proofs.YtibbgjafjhcemaaGreatDoor.Cul
open Go Go.RowKit
def tB (w:World) (b:Nat) (cs:List PV):Option (Nat×Nat)→Value→Prop
 |none,v=>v= .pointer (some ⟨b,0,none⟩)
 |some (sz,n),v=>∃cap c T,v= .slice (some ⟨b,0,none⟩) n cap∧0<sz∧n≤cap∧cs.length=n* sz∧w.heap[b]? =some (.cells c T (0,0))∧cap* sz≤c.size
def pJ:Value→Option Nat
 | .pointer (some a)=>some a.block
 | .slice (some a) _ _=>some a.block
 |_=>none
theorem tB.qy {w:World} {b:Nat} {cs:List PV} {s:Option (Nat×Nat)} {v:Value} (h:tB w b cs s v):pJ v=some b:=by
 cases s with
 |none=>have h':v= .pointer (some ⟨b,0,none⟩):=h;subst h';rfl
 |some x=>obtain ⟨cap,c,T,h1,_⟩:=h;subst h1;rfl
theorem tB.mono {w w':World} {b:Nat} {cs:List PV} {s:Option (Nat×Nat)} {v:Value} (hh:w'.heap[b]? =w.heap[b]?) (h:tB w b cs s v):tB w' b cs s v:=by
 cases s with
 |none=>exact h
 |some x=>obtain ⟨cap,c,T,h1,h2,h3,h4,h5,h6⟩:=h;exact ⟨cap,c,T,h1,h2,h3,h4,hh.trans h5,h6⟩
structure IL (base:Nat) (a:Act) (w:World) (Pr:aC) (d b:Nat) (cs:List PV) (s:Option (Nat×Nat)):Prop where
 at_:∃v,a.tmps[d]? =some v∧tB w b cs s v
 heap:∃c T vs,w.heap[b]? =some (.cells c T (0,0))∧vs<+:c.toList∧aM w Pr cs vs∧One vs
 lo:base≤b
 free:∀o,¬Pr b o
def cD (listed:Array Bool) (j:Nat):Prop:=listed.getD j false=true
structure JJ (base:Nat) (w0:World) (aL:aC) (N:Nat) (aT:ef) (st:St) (n:Nat) (bA:Nat→Nat) (ms:Nat→Made) (listed:Array Bool) (a:Act) (w:World) (sL:St) (Pr:aC) (bk:Key→Nat):Prop where
 inv:Inv base w Pr bk sL a N
 chain:Below base w0 w∧(∀b o,b<base→Pr b o→aL b o)∧KO w0 w∧(∀k b,aT.k k=some b→bk (.bx k)=b)∧(∀b o v,aL b o→w0.cell? ⟨b,o,none⟩=some v→Pr b o∧w.cell? ⟨b,o,none⟩=some v)∧∀ds,aT.ds=some ds→a.defers=ds
 bx:sL.bx=st.bx
 gr:sL.gr=st.gr
 on:∀j,j<n→cD listed j→look sL.sl (bA j)=some (fR (ms j).v)∧look sL.tg (bA j)=some (ms j).tg
 off:∀t,(∀j,j<n→cD listed j→bA j≠t)→look sL.sl t=look st.sl t∧look sL.tg t=look st.tg t
 new:∀j cs s,j<n→cD listed j→(ms j).v= .bV cs s→∃b,IL base a w Pr (bA j) b cs s∧∀x,live sL x→bk x≠b
 apart:∀i j ci cj si sj,i<n→j<n→i≠j→cD listed i→cD listed j→(ms i).v= .bV ci si→(ms j).v= .bV cj sj→(a.tmps[bA i]?).bind pJ≠(a.tmps[bA j]?).bind pJ
def ud (w w':World) (aD:aC) (v:Value) (cs:List PV) (s:Option (Nat×Nat)):Prop:=
 ∃b,tB w' b cs s v∧w.heap.size≤b∧(∃c T vs,w'.heap[b]? =some (.cells c T (0,0))∧vs<+:c.toList∧aM w' aD cs vs∧One vs)∧∀o,¬aD b o
section
variable {P:Program} {base:Nat} {w w0:World} {Pr aL:aC} {bk:Key→Nat} {st sL:St} {a:Act} {N n:Nat} {bA:Nat→Nat} {ms:Nat→Made} {listed:Array Bool} {aT:ef}
theorem rC {i j:Nat} (h:cD (listed.setIfInBounds i true) j):j=i∨cD listed j:=by
 by_cases e:i=j
 · exact .inl e.symm
 · unfold cD at h;rw [getD_set_ne false e] at h;exact .inr h
theorem Nz {i j:Nat} (h:cD listed j):cD (listed.setIfInBounds i true) j:=getD_set_true h
theorem AI {i:Nat} (h:i<listed.size):cD (listed.setIfInBounds i true) i:=by
 unfold cD;simp [h]
theorem JJ.next (H:JJ base w0 aL N aT st n bA ms listed a w sL Pr bk) {i:Nat} (hi:i<n) (hsz:n≤listed.size) (hoff:¬cD listed i) (hinj:∀i j,i<n→j<n→bA i=bA j→i=j) (hd:bA i<N)
  (zx:aG st.gr (.s (bA i))=none) (xw:¬dS st (bA i)) {w':World} {aD:aC} {v:Value} (hf:Fw w Pr w' aD) (hm:dn base w' aD bk sL a { v:=fR (ms i).v,gr:=none,tg:=(ms i).tg} v) (hx:jC (ms i).v=false)
  (hnew:∀cs s,(ms i).v= .bV cs s→ud w w' aD v cs s):
  ∃PO aN,JJ base w0 aL N aT st n bA ms (listed.setIfInBounds i true) (a.put (some (bA i)) v) w' PO aD aN:=by
 have I':=H.inv.fw hf
 have hN:bA i<a.tmps.size:=by rw [I'.size];exact hd
 have hno:∀j,j<n→cD listed j→bA j≠bA i:=fun j hj hl e=>hoff (hinj j i hj hi e ▸hl)
 have T8:=H.off (bA i) hno
 have Qo:¬dS sL (bA i):=fun ⟨sz,m,c,h⟩=>xw ⟨sz,m,c,T8.1 ▸h⟩
 have Qn:∀sz m c,fR (ms i).v≠ .ex sz m c:=fun sz m c e=>by
  cases hv:(ms i).v<;>rw [hv] at e hx<;>simp [fR,jC] at e hx
 obtain ⟨aN,I2,mN,hbk⟩:=I'.gu hd (by rw [H.gr];exact zx) Qo hm rfl Qn
 have hold:∀j,j<n→cD listed j→(a.put (some (bA i)) v).tmps[bA j]? =a.tmps[bA j]? :=fun j hj hl=>by rw [ck hN,if_neg (hno j hj hl)]
 refine ⟨_,aN,I2,⟨H.chain.1.trans (hf.gB.mono H.inv.hb),fun b o hb h=>H.chain.2.1 b o hb (hf.old b o (Nat.lt_of_lt_of_le hb H.inv.hb) h),H.chain.2.2.1.trans hf.ko,fun k b e=>(hbk k).trans (H.chain.2.2.2.1 k b e),fun b o v h1 h2=>by
  obtain ⟨h3,h4⟩:=H.chain.2.2.2.2.1 b o v h1 h2
  have hkp:=hf.kp H.inv.bH
  exact ⟨hkp.pr b o h3,(hkp.cell b o h3).trans h4⟩,H.chain.2.2.2.2.2⟩,H.bx,H.gr, ?_, ?_, ?_, ?_⟩
 · intro j hj hl
   rw [jN,j5]
   rcases rC hl with rfl|hl
   · rw [if_pos rfl,if_pos rfl];exact ⟨rfl,rfl⟩
   · rw [if_neg (hno j hj hl),if_neg (hno j hj hl)];exact H.on j hj hl
 · intro t ht
   have h1:t≠bA i:=fun e=>ht i hi (AI (by omega)) e.symm
   rw [jN,j5,if_neg h1,if_neg h1]
   exact H.off t (fun j hj hl=>ht j hj (Nz hl))
 · intro j cs s hj hl hv
   rcases rC hl with rfl|hl
   · obtain ⟨b,h1,h2,h3,h4⟩:=hnew cs s hv
     refine ⟨b,⟨⟨v,by rw [ck hN,if_pos rfl],h1⟩,h3,Nat.le_trans H.inv.hb h2,h4⟩,fun x hx e=> ?_⟩
     obtain ⟨h5,h6⟩:=mN x hx
     have:=(H.inv.own x h5).2
     omega
   · obtain ⟨b,hn,hfr⟩:=H.new j cs s hj hl hv
     obtain ⟨c,T,vs,h1,hpre,h2,h3⟩:=hn.heap
     have pQ:b<w.heap.size:=(Array.getElem?_eq_some_iff.1 h1).1
     obtain ⟨u,mQ,jc⟩:=hn.at_
     refine ⟨b,⟨⟨u,by rw [hold j hj hl];exact mQ,jc.mono (hf.heap pQ)⟩,⟨c,T,vs,(hf.heap pQ).trans h1,hpre,aM.mono (hf.kp H.inv.bH) h2,h3⟩,hn.lo,fun o h=>hn.free o (hf.old b o pQ h)⟩,fun x hx e=> ?_⟩
     obtain ⟨h5,h6⟩:=mN x hx
     exact hfr x h5 (h6 ▸e)
 · intro p q cp cq sp sq hp hq hpq iF Pb Mt Mu
   have fresh:∀j cj sj,j<n→cD listed j→(ms j).v= .bV cj sj→∀ci si,(ms i).v= .bV ci si→(some v:Option Value).bind pJ≠(a.tmps[bA j]?).bind pJ:=by
    intro j cj sj hj hl hv ci si UW e
    obtain ⟨b,h1,h2,_⟩:=hnew ci si UW
    obtain ⟨b2,hn,_⟩:=H.new j cj sj hj hl hv
    obtain ⟨c,T,vs,h3,_⟩:=hn.heap
    have pQ:b2<w.heap.size:=(Array.getElem?_eq_some_iff.1 h3).1
    obtain ⟨u,mQ,jc⟩:=hn.at_
    rw [mQ,Option.bind_some,Option.bind_some,h1.qy,jc.qy] at e
    have e2:b=b2:=Option.some.inj e
    omega
   rcases rC iF with e1|C5
   · rcases rC Pb with e2|zD
     · exact absurd (e1.trans e2.symm) hpq
     · rw [hold q hq zD,e1,ck hN,if_pos rfl]
       exact fresh q cq sq hq zD Mu cp sp (e1 ▸Mt)
   · rcases rC Pb with e2|zD
     · rw [hold p hp C5,e2,ck hN,if_pos rfl]
       exact fun e=>fresh p cp sp hp C5 Mt cq sq (e2 ▸Mu) e.symm
     · rw [hold q hq zD,hold p hp C5]
       exact H.apart p q cp cq sp sq hp hq hpq C5 zD Mt Mu
theorem Et {call:Cl} (hC:aH P call) (I:Inv base w Pr bk sL a N) {o:Oper} {sT:St} {m:Made} (S:n8 o sT sL) (h:oF call o sT=some m) (K:Act→World→Prop) (Q:Exit→Act→World→Prop)
  (hK:∀v w' aD,Fw w Pr w' aD→dn base w' aD bk sL a { v:=fR m.v,gr:=none,tg:=m.tg} v→jC m.v=false→
   (∀cs s,m.v= .bV cs s→ud w w' aD v cs s)→K (a.put o.dst v) w'):o.wp P a w K Q:=by
 unfold oF at h
 split at h
 · rename_i f args ts ho
   split at h
   · simp at h
   · rename_i hout
     simp only [Option.bind_eq_some_iff] at h
     obtain ⟨fU,has,r,hr,h⟩:=h
     split at h
     · rename_i sz n cs z hv hz
       split at h
       · rename_i gN
         obtain ⟨rfl,Hj⟩:=gN
         simp only [Option.some.injEq] at h
         subst h
         obtain ⟨hbody,bX⟩:=hC.fn f _ r hr
         obtain ⟨i1,i2⟩:=oa (st':=sL) S.bx _ _ (fun x hx=>S.ev x (by simp [ho,Op.operands,Call.operands];exact .inr (by simpa using hx))) has
         have zl:¬(args.toList.any fun x=>((sL.ev x).map bY).getD true)=true:=by
          intro hh
          refine hout ?_
          simp only [List.any_eq_true] at hh ⊢
          obtain ⟨x,hx,h2⟩:=hh
          exact ⟨x,hx,by rw [←i2 x hx];exact h2⟩
         have hargs:=jV I (by simpa using zl) i1
         have hge:a.eval (.func f)= .func (.func f) #[] #[]:=rfl
         have EB:=hargs.app (ds:=[]) (us:=[]) .nil
         rw [List.append_nil] at EB
         refine nt (k9 (cs:=[]) ho hge) hbody (bX _ w Pr I.bH EB) ?_
         rintro e w' ⟨v,aD,rfl,dX⟩
         refine ⟨v,rfl, ?_⟩
         obtain ⟨b,o',n',cap,dG,e1,e2,hroom,e3,e4,e5⟩:=dX.gr z hz
         rw [hv] at e1
         simp only [PV.sl.injEq,true_and] at e1
         obtain ⟨rfl,rfl⟩:=e1
         subst e3
         obtain ⟨qF,uJ⟩:∃qF:aC,∀b' o,qF b' o↔(aD b' o∧b'≠b):=⟨fun b' o=>_,fun _ _=>Iff.rfl⟩
         have hf:Fw w Pr w' qF:=⟨dX.fw.gB,fun b' o h=>(uJ b' o).2 ⟨dX.fw.pr b' o h,fun e=>by have:=I.bH b' o h;omega⟩,fun b' o hlt h=>dX.fw.old b' o hlt ((uJ b' o).1 h).1,fun b' o h=>dX.fw.new b' o ((uJ b' o).1 h).1⟩
         obtain ⟨c,T,hb,hsz⟩:=hroom.there
         obtain ⟨vs,hrl,hone,hpre,hlen⟩:∃vs,aM w' qF cs vs∧One vs∧vs<+:c.toList∧cs.length=n* z:=by
          have cQ:=dX.rp
          rw [hv,e2] at cQ
          cases cQ with
          |sl gm h1 hl hn hc hp=>exact ⟨_,pU Hj gm,h1,rF hb hc,hl⟩
         exact hK v w' qF hf ⟨fun _ _=>trivial,fun _ _ _ e=>by simp [fR] at e,fun z e=>by simp at e,fun q e=>by simp at e⟩ rfl (fun cs' s' e=>by
          cases e
          exact ⟨b,⟨cap,c,T,e2,hroom.hz,hroom.le,hlen,hb,by omega⟩,e4,⟨c,T,vs,hb,hpre,hrl,hone⟩,fun o h=>((uJ b o).1 h).2 rfl⟩)
       · simp at h
     · simp at h
 · simp at h
theorem FE {call:Cl} (hC:aH P call) (I:Inv base w Pr bk sL a N) {o:Oper} {sT:St} {m:Made} (S:n8 o sT sL) (h:eS P call o sT=some m) (K:Act→World→Prop) (Q:Exit→Act→World→Prop)
  (hK:∀v w' aD,Fw w Pr w' aD→dn base w' aD bk sL a { v:=fR m.v,gr:=none,tg:=m.tg} v→jC m.v=false→
   (∀cs s,m.v= .bV cs s→ud w w' aD v cs s)→K (a.put o.dst v) w'):o.wp P a w K Q:=by
 have fV:∀x av,o.op= .assign x→sT.ev x=some av→(∀cs s,av≠ .bV cs s)→jC av=false→m={ v:=av}→o.wp P a w K Q:=by
  intro x av ho he hn hx hm
  have he':=S.ev x (by simp [ho,Op.operands]) av he hn
  have hrun:(execOp a.eval o).run P w= .ok (.value (a.eval x)) w:=by simp [execOp,ho]
  refine nu hrun (hK _ _ _ (Fw.refl I.bH) ?_ (by rw [hm];exact hx) (fun cs s e=>by rw [hm] at e;exact absurd e (hn cs s)))
  obtain ⟨t,hr⟩:=eI I he'
  have hh:fR av=av:=by cases av<;>first|rfl|exact absurd rfl (hn _ _)
  rw [hm,hh]
  exact cu (fun sz n cs e=>by subst e;simp [jC] at hx) hr
 have other:∀m0,quiet P call o sT=some m0→jC m0.v=false→m={ m0 with gr:=none}→o.wp P a w K Q:=by
  intro m0 hq hx hm
  refine Az hC I (Dx S hq) K Q fun v w' aD hf hmo=> ?_
  have Pd:∀sz n cs,m0.v≠ .ex sz n cs:=fun sz n cs e=>by rw [e] at hx;simp [jC] at hx
  have hnn:∀cs s,m0.v≠ .bV cs s:=fun cs s e=>by have:=hmo.val Pd 0;rw [e] at this;exact this
  have hh:fR m0.v=m0.v:=by cases e:m0.v<;>first|rfl|exact absurd e (hnn _ _)
  subst hm
  refine hK v w' aD hf ⟨fun h t=>by simp only [hh] at h ⊢;exact hmo.val h t,fun sz n cs e=>by simp only [hh] at e;exact absurd e (Pd sz n cs),fun z e=>by simp at e,hmo.tg⟩ hx (fun cs s e=>absurd e (hnn cs s))
 unfold eS at h
 split at h
 · exact Et hC I S h K Q hK
 split at h
 · rename_i x ho
   split at h
   · rename_i p he;simp only [Option.some.injEq] at h;exact fV x _ ho he (by simp) rfl h.symm
   · rename_i k off he;simp only [Option.some.injEq] at h;exact fV x _ ho he (by simp) rfl h.symm
   · rename_i f caps he;simp only [Option.some.injEq] at h;exact fV x _ ho he (by simp) rfl h.symm
   · simp at h
 · rename_i t ho
   simp only [Option.map_eq_some_iff] at h
   obtain ⟨z,hz,rfl⟩:=h
   obtain ⟨i,zv,hi,qD,qC⟩:=kN (w:=w) (Pr:=Pr) hz
   obtain ⟨fK,gl⟩:=qC.iB (iJ (iT hz))
   have hf:=qW I (.cells zv.cells t)
   have he:(execOp a.eval o).run P w= .ok (.value (.pointer (some ⟨w.heap.size,0,none⟩))) (w.alloc (.cells zv.cells t)):=by
    simp only [execOp,ho]
    refine dB ?_
    simp [Instr.alloc,zeroValue,typeInfo,hi,qD,ql]
   have hk:=hK (.pointer (some ⟨w.heap.size,0,none⟩)) _ _ hf ⟨fun _ _=>trivial,fun _ _ _ e=>by simp [fR] at e,fun z e=>by simp at e,fun q e=>by simp at e⟩ rfl (fun cs s e=>by
    cases e
    refine ⟨w.heap.size,rfl,Nat.le_refl _,⟨zv.cells,t,zv.cells.toList,by rw [heap_alloc],List.prefix_refl _,aM.mono (hf.kp I.bH) fK,gl⟩,fun o h=>by have:=I.bH _ _ h;omega⟩)
   unfold Oper.wp
   rw [he]
   exact hk
 · simp only [Option.bind_eq_some_iff] at h
   obtain ⟨m0,hm0,h⟩:=h
   split at h
   · simp at h
   · rename_i hx
     simp only [Option.some.injEq] at h
     exact other m0 hm0 (by simpa using hx) h.symm
end
end Go.Proofs.YtibbgjafjhcemaaGreatDoor.Cul
namespace Go.Proofs.YtibbgjafjhcemaaGreatDoor.Cul
open Go Go.RowKit
section
variable {P:Program} {base:Nat} {w w0:World} {Pr aL:aC} {bk:Key→Nat} {st sL:St} {a:Act} {N n:Nat} {bA:Nat→Nat} {ms:Nat→Made} {sT:Nat→St} {listed:Array Bool} {ops:Array Oper} {call:Cl} {aT:ef}
theorem mH {o:Oper} {j:Nat} (h:jI o j=true):∃e∈o.after,Region.binds .any e=true∧e.on=j:=by
 unfold jI at h
 obtain ⟨e,he,hb⟩:=Array.any_eq_true'.1 h
 simp only [Bool.and_eq_true,beq_iff_eq] at hb
 exact ⟨e,he,hb⟩
theorem kT {l:List Oper} {i:Nat} {o:Oper} (h:mU l n i o=true):
  (∀g want,o.guard=some (g,want)→g<i∧jI o g=true)∧(∀e∈o.after,Region.binds .any e=true→e.on<i)∧
  ∀j,j<n→∀oj d,l[j]? =some oj→oj.dst=some d→(d∈tmpsOf o→(j<i∧jI o j=true)∨(i<j∧jI oj i=true)∨j=i)∧(j=i∨o.dst≠some d):=by
 simp only [mU,Bool.and_eq_true] at h
 obtain ⟨⟨h1,h2⟩,h3⟩:=h
 refine ⟨fun g want e=> ?_,fun e he hb=> ?_,fun j hj oj d uR hd=> ?_⟩
 · rw [e] at h1;simpa using h1
 · have:=Array.all_eq_true'.1 h2 e he
   simp only [Bool.or_eq_true,Bool.not_eq_true',decide_eq_true_eq] at this
   rcases this with this|this
   · rw [hb] at this;simp at this
   · exact this
 · have:=List.all_eq_true.1 h3 j (List.mem_range.2 hj)
   simp only [uR,Option.bind_some,hd,Bool.and_eq_true,Bool.or_eq_true,Bool.not_eq_true',decide_eq_true_eq,beq_iff_eq,bne_iff_ne] at this
   obtain ⟨h4,h5⟩:=this
   refine ⟨fun hm=> ?_,h5⟩
   rcases h4 with ((h4|h4)|h4)|h4
   · rw [List.contains_eq_mem] at h4;simp [hm] at h4
   · exact .inl h4
   · exact .inr (.inl h4)
   · exact .inr (.inr h4)
theorem ve {o:Oper} {t:Nat} (h:Operand.tmp t∈o.op.operands.toList):t∈tmpsOf o:=by
 unfold tmpsOf
 exact List.mem_filterMap.2 ⟨_,h,rfl⟩
theorem KQ (T:Told P call ops.toList st n bA ms sT) (H:JJ base w0 aL N aT st n bA ms listed a w sL Pr bk) {i:Nat} (hi:i<n) {o:Oper} (ho:ops[i]? =some o) (mM:mU ops.toList n i o=true)
  (zF:∀e∈o.after,Region.binds .any e=true→cD listed e.on) (inv:HeadInv .any ops n listed) (hnot:¬cD listed i) (uQ:∀j,j<n→jC (ms j).v=false) (hfresh:∀j,j<n→¬dS st (bA j)):
  n8 o (sT i) sL:=by
 obtain ⟨hg,ha,C3⟩:=kT mM
 have hin:i≤n:=Nat.le_of_lt hi
 have near:∀t,t∈tmpsOf o→(∃j,j<i∧bA j=t∧cD listed j)∨((∀j,j<i→bA j≠t)∧∀j,j<n→cD listed j→bA j≠t):=by
  intro t ht
  have hd:∀j,j<n→bA j=t→(j<i∧cD listed j)∨(¬j<i∧¬cD listed j):=by
   intro j hj e
   obtain ⟨oj,uR,LU⟩:=T.dst j hj
   rcases (C3 j hj oj (bA j) uR LU).1 (e ▸ht) with ⟨h1,h2⟩|⟨h1,h2⟩|h1
   · obtain ⟨e',he,hb,hon⟩:=mH h2
     exact .inl ⟨h1,hon ▸zF e' he hb⟩
   · obtain ⟨e',he,hb,hon⟩:=mH h2
     refine .inr ⟨by omega,fun hl=>hnot ?_⟩
     have:=inv.closed j oj (by simpa using uR) hl e' he hb
     rw [hon] at this;exact this
   · subst h1;exact .inr ⟨by omega,hnot⟩
  by_cases h:∃j,j<i∧bA j=t
  · obtain ⟨j,hj,e⟩:=h
    rcases hd j (by omega) e with ⟨_,hl⟩|⟨hc,_⟩
    · exact .inl ⟨j,hj,e,hl⟩
    · exact absurd hj hc
  · refine .inr ⟨fun j hj e=>h ⟨j,hj,e⟩,fun j hj hl e=> ?_⟩
    rcases hd j hj e with ⟨h1,_⟩|⟨_,h2⟩
    · exact h ⟨j,h1,e⟩
    · exact h2 hl
 constructor
 · intro x hx av he hn
   cases x with
   |tmp t=>
    simp only [St.ev] at he ⊢
    rcases near t (ve hx) with ⟨j,hj,e,hl⟩|⟨h1,h2⟩
    · have h3:=(T.done i hin j hj).1
      rw [e,he] at h3
      have h4:=(H.on j (by omega) hl).1
      rw [e] at h4
      have h5:(ms j).v=av:=(Option.some.inj h3).symm
      rw [h4,h5]
      cases av<;>first|rfl|exact absurd rfl (hn _ _)
    · rw [(T.rest i hin t h1).1] at he
      rw [(H.off t h2).1];exact he
   |const v=>exact he
   |func f=>exact he
   |global g=>exact he
 · intro u sz m c he
   have hne:∀j,j<i→bA j≠u:=by
    intro j hj e
    have h3:=(T.done i hin j hj).1
    rw [e,he] at h3
    have:=uQ j (by omega)
    rw [←Option.some.inj h3] at this
    simp [jC] at this
   rw [(T.rest i hin u hne).1] at he
   have QA:∀j,j<n→cD listed j→bA j≠u:=fun j hj _ e=>hfresh j hj ⟨sz,m,c,e ▸he⟩
   rw [(H.off u QA).1];exact he
 · rw [H.bx,(T.bx i hin).1]
 · rw [H.gr,(T.bx i hin).2]
 · intro t hx
   rcases near t (ve hx) with ⟨j,hj,e,hl⟩|⟨h1,h2⟩
   · have h3:=(T.done i hin j hj).2
     have h4:=(H.on j (by omega) hl).2
     rw [e] at h3 h4
     simp only [St.tag];rw [h3,h4]
   · simp only [St.tag]
     rw [(T.rest i hin t h1).2,(H.off t h2).2]
theorem Bq (T:Told P call ops.toList st n bA ms sT) (H:JJ base w0 aL N aT st n bA ms listed a w sL Pr bk) {i:Nat} (hi:i<n) {o:Oper} (mM:mU ops.toList n i o=true)
  (zF:∀e∈o.after,Region.binds .any e=true→cD listed e.on) {b:Bool} (h:dZ ops.toList o (sT i)=some b):dZ ops.toList o sL=some b:=by
 obtain ⟨hg,_,_⟩:=kT mM
 unfold dZ at h ⊢
 cases hgd:o.guard with
 |none=>rw [hgd] at h;exact h
 |some g=>
  obtain ⟨j,want⟩:=g
  obtain ⟨hji,hb⟩:=hg j want hgd
  obtain ⟨e,he,LL,hon⟩:=mH hb
  have hl:cD listed j:=hon ▸zF e he LL
  obtain ⟨oj,uR,LU⟩:=T.dst j (by omega)
  simp only [hgd,uR,Option.bind_some,LU] at h ⊢
  have h3:=(T.done i (Nat.le_of_lt hi) j hji).1
  have h4:=(H.on j (by omega) hl).1
  rw [h3] at h
  rw [h4]
  split at h
  · rename_i c hc;rw [Option.some.inj hc];exact h
  · rename_i hc;rw [Option.some.inj hc];exact h
  · simp at h
def cnt (n:Nat) (listed:Array Bool):Nat:=((List.range n).filter fun j=> !listed.getD j false).length
theorem GM (h:cnt n listed=0):∀j,j<n→cD listed j:=by
 intro j hj
 have:=List.eq_nil_of_length_eq_zero h
 have h2:=List.filter_eq_nil_iff.1 this j (List.mem_range.2 hj)
 unfold cD
 cases e:listed.getD j false with
 |true=>rfl
 |false=>exact absurd (by rw [e];rfl) h2
theorem GL {f:Nat} (h:cnt n listed=f+1):∃j,j<n∧¬cD listed j:=by
 cases hl:(List.range n).filter fun j=> !listed.getD j false with
 |nil=>unfold cnt at h;rw [hl] at h;simp at h
 |cons j l=>
  have:j∈(List.range n).filter fun j=> !listed.getD j false:=by rw [hl];simp
  obtain ⟨h1,h2⟩:=List.mem_filter.1 this
  refine ⟨j,List.mem_range.1 h1,fun e=> ?_⟩
  unfold cD at e;rw [e] at h2;simp at h2
theorem JY {i f:Nat} (hi:i<n) (hsz:n≤listed.size) (hoff:¬cD listed i) (h:cnt n listed=f+1):cnt n (listed.setIfInBounds i true)=f:=by
 have h1:((List.range n).filter fun j=> !(listed.setIfInBounds i true).getD j false)=((List.range n).filter fun j=> !listed.getD j false).erase i:=by
  rw [List.Nodup.erase_eq_filter ((List.nodup_range).filter _),List.filter_filter]
  apply List.filter_congr
  intro j hj
  by_cases e:i=j
  · subst e
    have:=AI (listed:=listed) (i:=i) (by omega)
    unfold cD at this
    rw [this];simp
  · rw [getD_set_ne false e]
    have:(j !=i)=true:=by simpa using Ne.symm e
    rw [this];simp
 have h2:i∈(List.range n).filter fun j=> !listed.getD j false:=by
  refine List.mem_filter.2 ⟨List.mem_range.2 hi, ?_⟩
  unfold cD at hoff
  simpa using hoff
 unfold cnt at h ⊢
 rw [h1,List.length_erase_of_mem h2,h];rfl
theorem tu {F:Fence} {m:Nat} {Q':Exit→Act→World→Prop}:∀(l:List Oper) (k:Nat) (listed:Array Bool) (a:Act) (w:World),(∀j,l[j]? =ops[k+j]?)→Region.seqB .any ops l.length k listed=true→wpListIn F m P ops Q' l a w→wpAnyIn F m P .any ops Q' l.length listed a w
 |[],_,_,_,_,_,hB,h=>⟨by simpa [Region.seqB] using hB,h⟩
 |o::l,k,listed,a,w,hl,hB,h=>by
  have h0:ops[k]? =some o:=by have:=hl 0;simpa using this.symm
  simp only [List.length_cons,Region.seqB,Bool.and_eq_true,decide_eq_true_eq] at hB
  obtain ⟨hr,hB⟩:=hB
  refine ⟨fun h1=>absurd h1 (by rw [hr];simp),fun i hi=> ?_⟩
  rw [hr] at hi
  obtain rfl:i=k:=by simpa using hi
  have hw:wpOpIn F m P ops Q' i (wpListIn F m P ops Q' l) a w:=by unfold wpOpIn;rw [h0];exact h
  exact wpOpIn_mono (fun a' w' h'=>tu l (i+1) _ a' w' (fun j=>by have:=hl (j+1);rw [List.getElem?_cons_succ] at this;rw [this];congr 1;omega) hB h') hw
theorem vn {o:Oper} {m:Made} (h:eS P call o st=some m):∀c,o.op≠ .defer c:=by
 intro c ho
 simp [eS,ho,quiet,BH] at h
theorem DZ {F:Fence} (E:iy F) (m:Nat) (hC:aH P call) {Q:Exit→Act→World→Prop} (T:Told P call ops.toList st n bA ms sT) (hn:n<ops.size) (hs:Region.sinkB .any ops n=true) (hc:Region.chainB .any ops n=true) (hq:Region.seqB .any ops (ops.size - n) n (pT ops.size n)=true)
  (mM:∀i o,i<n→ops[i]? =some o→mU ops.toList n i o=true) (hinj:∀i j,i<n→j<n→bA i=bA j→i=j) (hd:∀i,i<n→bA i<N)
  (zx:∀i,i<n→aG st.gr (.s (bA i))=none) (xw:∀i,i<n→¬dS st (bA i)) (uQ:∀j,j<n→jC (ms j).v=false)
  (LD:∀listed a w sL Pr bk,(∀j,j<n→cD listed j)→JJ base w0 aL N aT st n bA ms listed a w sL Pr bk→wpListIn F m P ops Q (ops.toList.drop n) a w):
  ∀(f:Nat) (listed:Array Bool) (a:Act) (w:World) (sL:St) (Pr:aC) (bk:Key→Nat),cnt n listed=f→HeadInv .any ops n listed→JJ base w0 aL N aT st n bA ms listed a w sL Pr bk→wpAnyIn F m P .any ops Q (f+(ops.size - n)) listed a w
 |0,listed,a,w,sL,Pr,bk,C1,inv,H=>by
  have hall:=GM C1
  have hl:listed=pT ops.size n:=by
   apply Array.ext_getElem?
   intro i
   have hsz:=inv.size
   unfold pT
   simp only [List.getElem?_toArray,List.getElem?_map]
   by_cases h:i<ops.size
   · rw [List.getElem?_range h]
     simp only [Option.map_some]
     have hlt:i<listed.size:=by omega
     rw [Array.getElem?_eq_getElem hlt]
     congr 1
     by_cases hin:i<n
     · have:=hall i hin
       unfold cD at this
       simp [hlt] at this
       simp [this,hin]
     · have:=inv.tail i (by omega) h
       simp [hlt] at this
       simp [this,hin]
   · rw [Array.getElem?_eq_none (by omega),List.getElem?_eq_none (by simp;omega)];rfl
  have hlen:(ops.toList.drop n).length=ops.size - n:=by simp
  have:=tu (F:=F) (m:=m) (P:=P) (Q':=Q) (ops.toList.drop n) n listed a w (fun j=>by simp [List.getElem?_drop]) (by rw [hlen,hl];exact hq) (LD listed a w sL Pr bk hall H)
  rw [hlen] at this
  rw [Nat.zero_add];exact this
 |f+1,listed,a,w,sL,Pr,bk,C1,inv,H=>by
  obtain ⟨i0,L6,I8⟩:=GL C1
  have hsz:n≤listed.size:=by rw [inv.size];omega
  have hun:∀i,i<n→¬cD listed i→listed.getD i true=false:=fun i hi ho=>getD_in (by omega) (by unfold cD at ho;simpa using ho)
  have hne:∀d i,i=d→i<n→¬cD listed i→Region.ready .any ops listed≠[]:=by
   intro d
   induction d using Nat.strongRecOn with
   |_ d ih=>
    intro i hid hi ho
    subst hid
    obtain ⟨o,ho',_⟩:=T.dst i hi
    have I7:ops[i]? =some o:=by simpa using ho'
    by_cases hall:∀e∈o.after,Region.binds .any e=true→listed.getD e.on false=true
    · have:i∈Region.ready .any ops listed:=mem_ready.2 ⟨hun i hi ho,o,I7,hall⟩
      exact fun h=>by rw [h] at this;simp at this
    · have:∃e,e∈o.after∧Region.binds .any e=true∧¬listed.getD e.on false=true:=by
        apply Classical.byContradiction
        intro hno
        exact hall fun e he hb=>Classical.byContradiction fun hl=>hno ⟨e,he,hb,hl⟩
      obtain ⟨e,he,hb,hl⟩:=this
      have hlt:=(kT (mM i o hi I7)).2.1 e he hb
      exact ih e.on hlt e.on rfl (by omega) hl
  rw [show f+1+(ops.size - n)=(f+(ops.size - n))+1 by omega]
  refine ⟨fun h=>absurd h (hne i0 i0 rfl L6 I8),fun i hi=> ?_⟩
  have hin:i<n:=by
   rcases Nat.lt_or_ge i n with h|h
   · exact h
   · exact absurd hi (tail_waits hs hc hn inv _ i0 rfl L6 (hun i0 L6 I8) i h)
  obtain ⟨hgt,o,ho,hall⟩:=mem_ready.1 hi
  have hoff:¬cD listed i:=by unfold cD;rw [getD_both hgt];simp
  have hS:=KQ T H hin ho (mM i o hin ho) hall inv hoff uQ xw
  obtain ⟨b,hb,IZ,LM⟩:=T.step i hin o (by simpa using ho)
  have hw:=lF (ops:=ops) H.inv (Bq T H hin (mM i o hin ho) hall hb)
  have LV:o.dst=some (bA i):=by
   obtain ⟨o2,I7,qY⟩:=T.dst i hin
   have:o2=o:=by
    have h3:ops[i]? =some o2:=by simpa using I7
    rw [ho] at h3;exact (Option.some.inj h3).symm
   rw [←this];exact qY
  have go:∀v w' aD,Fw w Pr w' aD→dn base w' aD bk sL a { v:=fR (ms i).v,gr:=none,tg:=(ms i).tg} v→
   (∀cs s,(ms i).v= .bV cs s→ud w w' aD v cs s)→
   wpAnyIn F m P .any ops Q (f+(ops.size - n)) (listed.setIfInBounds i true) (a.put o.dst v) w':=by
   intro v w' aD hf hm hnew
   obtain ⟨PO,aN,H'⟩:=H.next hin hsz hoff hinj (hd i hin) (zx i hin) (xw i hin) hf hm (uQ i hin) hnew
   rw [LV]
   exact DZ E m hC T hn hs hc hq mM hinj hd zx xw uQ LD f _ _ _ _ _ _ (JY hin hsz hoff C1) (inv.set hi hin) H'
  unfold wpOpIn
  simp only [ho]
  rw [hw]
  cases b with
  |true=>
   simp only [if_true]
   exact mq E (vn (IZ rfl)) (FE hC H.inv hS (IZ rfl) _ Q fun v w' aD hf hm hx hnew=>go v w' aD hf hm hnew)
  |false=>
   simp only [Bool.false_eq_true,if_false]
   have he:=LM rfl
   refine ⟨fun f _=>E.fn f, ?_⟩
   refine go undef w Pr (Fw.refl H.inv.bH) ?_ (fun cs s e=>by rw [he] at e;simp [fA] at e)
   rw [he]
   exact bu (Rp.aQ .nil)
end
end Go.Proofs.YtibbgjafjhcemaaGreatDoor.Cul
namespace Go.Proofs.YtibbgjafjhcemaaGreatDoor.Cul
open Go Go.RowKit
def nK (x:Nat×AV):Nat×AV:=(x.1,fR x.2)
def eB (s:St):St:={ s with sl:=s.sl.map nK}
theorem xG (s:St) (t:Nat):look (eB s).sl t=(look s.sl t).map fR:=bQ nK (fun _ v=>fR v) (fun _=>rfl) s.sl t
theorem qP {α β:Type} (f:Nat×α→Nat×β) (hf:∀x,(f x).1=x.1) (d:Nat):∀l:List (Nat×α),bF (l.map f) d=(bF l d).map f
 |[]=>rfl
 |x::l=>by
  have h:=hf x
  cases hx:f x with
  |mk k v=>
   rw [hx] at h
   obtain ⟨k',v'⟩:=x
   simp only at h;subst h
   simp only [List.map_cons,hx,bF,qP f hf d l]
   split<;>simp [hx]
theorem xB (d:Nat) (x:Nat×AV):dA d (nK x)=nK (dA d x):=by
 obtain ⟨k,v⟩:=x
 have h1:bn d (fR v)=bn d v:=by cases v<;>rfl
 show (k,if bn d (fR v)=true then AV.dead else fR v)=(k,fR (if bn d v=true then AV.dead else v))
 rw [h1]
 by_cases h:bn d v=true
 · rw [if_pos h,if_pos h];rfl
 · rw [if_neg h,if_neg h]
theorem Ht (s:St) (d:Nat) (v:AV) (hv:fR v=v):(eB s).put (some d) v=eB (s.put (some d) v):=by
 simp only [St.put,eB,List.map_cons,St.mk.injEq,and_true,true_and]
 rw [qP nK (fun _=>rfl)]
 simp only [List.map_map]
 have e0:=xB d (d,v)
 have e1:nK (d,v)=(d,v):=by simp [nK,hv]
 rw [e1] at e0
 rw [←e0]
 congr 1
 apply List.map_congr_left
 intro x _
 exact xB d x
theorem Dk (d:Nat) (v:AV):ir d (fR v)=ir d v:=by cases v<;>rfl
theorem Ba {s s':St} {d:Nat} {cs:List PV} {v:AV} (hv:fR v=v) (h:s.dj d cs v=some s'):(eB s).dj d cs v=some (eB s')∧s'.sl=(s.put (some d) v).sl:=by
 simp only [St.dj] at h ⊢
 rw [Ht s d v hv]
 have e:(bF (eB (s.put (some d) v)).sl d).all (fun x=>ir d x.2)=(bF (s.put (some d) v).sl d).all (fun x=>ir d x.2):=by
  simp only [eB]
  rw [qP nK (fun _=>rfl),List.all_map]
  congr 1
  funext x
  exact Dk d x.2
 rw [e]
 split at h
 · rename_i hc
   rw [if_pos hc]
   simp only [Option.some.injEq] at h
   subst h
   exact ⟨rfl,rfl⟩
 · simp at h
section
variable {P:Program} {base:Nat} {w w0:World} {Pr aL:aC} {bk:Key→Nat} {st sL:St} {a:Act} {N n:Nat} {bA:Nat→Nat} {ms:Nat→Made} {sT:Nat→St} {listed:Array Bool} {ops:Array Oper} {call:Cl} {aT:ef}
def pH (d:Nat):Option (Nat×Nat)→AV
 |none=> .bp d 0
 |some (sz,n)=> .bs d 0 sz n
structure SS (base:Nat) (w:World) (Pr:aC) (bk:Key→Nat) (s:St) (a:Act) (N:Nat):Prop where
 inv:Inv base w Pr bk (eB s) a N
 new:∀t cs p,look s.sl t=some (.bV cs p)→∃b,IL base a w Pr t b cs p∧∀x,live (eB s) x→bk x≠b
 apart:∀t u cs ds p q,t≠u→look s.sl t=some (.bV cs p)→look s.sl u=some (.bV ds q)→(a.tmps[t]?).bind pJ≠(a.tmps[u]?).bind pJ
theorem SS.box {s s':St} (H:SS base w Pr bk s a N) {d:Nat} {cs:List PV} {sp:Option (Nat×Nat)} (hd:look s.sl d=some (.bV cs sp)) (h:s.dj d cs (pH d sp)=some s'):
  (∃aN,SS base w Pr aN s' a N∧∀k,k≠d→aN (.bx k)=bk (.bx k))∧∀t ds p,look s'.sl t=some (.bV ds p)→t≠d∧look s.sl t=some (.bV ds p):=by
 have uK:bn d (pH d sp)=false:=by cases sp<;>rfl
 obtain ⟨h1,h2⟩:=Ba (by cases sp<;>rfl) h
 obtain ⟨b,hn,hfr⟩:=H.new d cs sp hd
 obtain ⟨c,T,vs,e1,hpre,e2,e3⟩:=hn.heap
 obtain ⟨u,mQ,jc⟩:=hn.at_
 have Ug:d<N:=by rw [←H.inv.size];exact (Array.getElem?_eq_some_iff.1 mQ).1
 obtain ⟨aN,I',hl,hbk⟩:=H.inv.dj (um:=pH d sp) (v0:=u) Ug e1 hpre hn.lo hfr hn.free e2 e3 uK (by cases sp<;>simp [pH]) (fun tj a2 gh t k1 k2=>by
  cases sp with
  |none=>have hu:u= .pointer (some ⟨b,0,none⟩):=jc;subst hu;simp only [pH,dD];rw [k2]
  |some x=>
   obtain ⟨sz,m⟩:=x
   obtain ⟨cap,c',T',g1,g2,g3,g4,g5,g6⟩:=jc
   exact ⟨0,cap,_,c',T',by rw [k2];exact g1, .inl rfl,k1,by omega,g2,g3,by rw [k2];exact g5,by omega⟩) h1
 rw [tW mQ] at I'
 have hnp:∀t ds p,look s'.sl t=some (.bV ds p)→t≠d∧look s.sl t=some (.bV ds p):=by
  intro t ds p ht
  rw [h2,jD] at ht
  by_cases e:t=d
  · rw [if_pos e] at ht;cases sp<;>simp [pH,bn] at ht
  · rw [if_neg e] at ht
    refine ⟨e, ?_⟩
    cases hq:look s.sl t with
    |none=>simp [hq] at ht
    |some x=>
     simp only [hq,Option.map_some,Option.some.injEq] at ht
     split at ht
     · simp at ht
     · rw [ht]
 refine ⟨⟨aN,⟨I',fun t ds p ht=> ?_,fun t u ds es p q htu ht hu=>H.apart t u ds es p q htu (hnp t ds p ht).2 (hnp u es q hu).2⟩,hbk⟩,hnp⟩
 obtain ⟨Jc,ht'⟩:=hnp t ds p ht
 obtain ⟨b',hn',Qp⟩:=H.new t ds p ht'
 refine ⟨b',hn',fun x hx=> ?_⟩
 rcases hl x hx with ⟨_,e⟩|⟨hx',e⟩
 · rw [e]
   intro eb
   refine H.apart t d ds cs p sp Jc ht' hd ?_
   obtain ⟨u',QI,QJ⟩:=hn'.at_
   rw [QI,mQ,Option.bind_some,Option.bind_some,jc.qy,QJ.qy,eb]
 · rw [e];exact Qp x hx'
theorem nU:∀(l:List Oper) {s s2:St} {bk:Key→Nat},SS base w Pr bk s a N→(∀t cs p,look s.sl t=some (.bV cs p)→∃o∈l,o.dst=some t)→s.settle l=some s2→∃aN,Inv base w Pr aN s2 a N∧∀k,(∀o∈l,o.dst≠some k)→aN (.bx k)=bk (.bx k)
 |[],s,s2,bk,H,hn,h=>by
  simp only [St.settle,Option.some.injEq] at h
  subst h
  have hh:∀t,look (eB s).sl t=look s.sl t:=by
   intro t
   rw [xG]
   cases e:look s.sl t with
   |none=>rfl
   |some v=>
    cases v with
    |bV cs p=>obtain ⟨o,ho,_⟩:=hn t cs p e;simp at ho
    |_=>rfl
  refine ⟨bk,H.inv.less (fun t av ht=> .inl ((hh t).trans ht)) (fun k cs hk=>hk) (fun p z hp=>⟨hp, ?_⟩) (fun t q h=>h) (fun t u _ hx=> ?_) (fun _ _ _ _ _ _ e=>e),fun _ _=>rfl⟩
  · cases p with
    |s t=>exact (hh t).symm
    |c k o=>rfl
  · obtain ⟨sz,m,c,hx⟩:=hx
    exact ⟨sz,m,c,(hh u).symm.trans hx⟩
 |o::l,s,s2,bk,H,hn,h=>by
  simp only [St.settle,Option.bind_eq_some_iff] at h
  obtain ⟨s1,h1,h⟩:=h
  unfold St.Ch at h1
  have go:∀{d:Nat} (hd:o.dst=some d) {cs:List PV} {sp:Option (Nat×Nat)} (hcs:look s.sl d=some (.bV cs sp)) (h1:s.dj d cs (pH d sp)=some s1),∃aN,Inv base w Pr aN s2 a N∧∀k,(∀o'∈o::l,o'.dst≠some k)→aN (.bx k)=bk (.bx k):=by
   intro d hd cs sp hcs h1
   obtain ⟨⟨aN,H',hbk⟩,hnp⟩:=H.box hcs h1
   obtain ⟨gh,I2,cc⟩:=nU l H' (fun t ds p ht=>by
    obtain ⟨Jc,ht'⟩:=hnp t ds p ht
    obtain ⟨o',ho',hd'⟩:=hn t ds p ht'
    rcases List.mem_cons.1 ho' with rfl|ho'
    · rw [hd] at hd';exact absurd (Option.some.inj hd').symm Jc
    · exact ⟨o',ho',hd'⟩) h
   exact ⟨gh,I2,fun k hk=>(cc k (fun o' ho'=>hk o' (List.mem_cons_of_mem _ ho'))).trans (hbk k (fun e=>hk o (by simp) (by rw [hd,e])))⟩
  split at h1
  · rename_i d hd
    split at h1
    · rename_i cs hcs;exact go hd hcs h1
    · rename_i cs sz m hcs;exact go hd hcs h1
    · rename_i Mc Md
      simp only [Option.some.injEq] at h1;subst h1
      obtain ⟨gh,I2,cc⟩:=nU l H (fun t ds p ht=>by
       obtain ⟨o',ho',hd'⟩:=hn t ds p ht
       rcases List.mem_cons.1 ho' with rfl|ho'
       · rw [hd] at hd'
         rw [Option.some.inj hd'] at Mc Md
         cases p with
         |none=>exact absurd ht (Mc ds)
         |some x=>exact absurd ht (Md ds x.1 x.2)
       · exact ⟨o',ho',hd'⟩) h
      exact ⟨gh,I2,fun k hk=>cc k (fun o' ho'=>hk o' (List.mem_cons_of_mem _ ho'))⟩
  · rename_i hd
    simp only [Option.some.injEq] at h1;subst h1
    obtain ⟨gh,I2,cc⟩:=nU l H (fun t ds p ht=>by
     obtain ⟨o',ho',hd'⟩:=hn t ds p ht
     rcases List.mem_cons.1 ho' with rfl|ho'
     · rw [hd] at hd';simp at hd'
     · exact ⟨o',ho',hd'⟩) h
    exact ⟨gh,I2,fun k hk=>cc k (fun o' ho'=>hk o' (List.mem_cons_of_mem _ ho'))⟩
theorem JJ.done (T:Told P call ops.toList st n bA ms sT) (H:JJ base w0 aL N aT st n bA ms listed a w sL Pr bk) (hall:∀j,j<n→cD listed j) (hinj:∀i j,i<n→j<n→bA i=bA j→i=j):SS base w Pr bk (sT n) a N∧∀t cs p,look (sT n).sl t=some (.bV cs p)→∃j,j<n∧bA j=t:=by
 have hlk:∀t,look (eB (sT n)).sl t=look sL.sl t∧look (sT n).tg t=look sL.tg t∧((∃j,j<n∧bA j=t∧look (sT n).sl t=some (ms j).v)∨(∀cs p,look (sT n).sl t≠some (.bV cs p))):=by
  intro t
  rw [xG]
  by_cases h:∃j,j<n∧bA j=t
  · obtain ⟨j,hj,e⟩:=h
    have h1:=T.done n (Nat.le_refl _) j hj
    have h2:=H.on j hj (hall j hj)
    rw [e] at h1 h2
    exact ⟨by rw [h1.1,h2.1];rfl,by rw [h1.2,h2.2], .inl ⟨j,hj,e,h1.1⟩⟩
  · have hne:∀j,j<n→bA j≠t:=fun j hj e=>h ⟨j,hj,e⟩
    have h1:=T.rest n (Nat.le_refl _) t hne
    have h2:=H.off t (fun j hj _=>hne j hj)
    have hnn:∀cs p,look st.sl t≠some (.bV cs p):=by
     intro cs p e
     rw [←h2.1] at e
     obtain ⟨v,_,hr⟩:=H.inv.slots t _ e
     exact hr
    refine ⟨?_,by rw [h1.2,h2.2], .inr (fun cs p=>by rw [h1.1];exact hnn cs p)⟩
    rw [h1.1,h2.1]
    cases e:look st.sl t with
    |none=>rfl
    |some v=>cases v<;>first|rfl|exact absurd e (hnn _ _)
 have hb:=T.bx n (Nat.le_refl _)
 have de:(eB (sT n)).bx=sL.bx:=hb.1.trans H.bx.symm
 have dJ:(eB (sT n)).gr=sL.gr:=hb.2.trans H.gr.symm
 have bS:∀x,live (eB (sT n)) x→live sL x:=by
  intro x hx
  cases x with
  |bx k=>obtain ⟨cs,h⟩:=hx;exact ⟨cs,de ▸h⟩
  |sx t=>
   rcases hx with ⟨sz,m,c,h⟩|⟨z,h⟩
   · exact .inl ⟨sz,m,c,(hlk t).1 ▸h⟩
   · exact .inr ⟨z,dJ ▸h⟩
  |cx k o=>obtain ⟨z,h⟩:=hx;exact ⟨z,dJ ▸h⟩
 have hnp:∀t cs p,look (sT n).sl t=some (.bV cs p)→∃j,j<n∧bA j=t∧(ms j).v= .bV cs p:=by
  intro t cs p ht
  rcases (hlk t).2.2 with ⟨j,hj,e,h⟩|h
  · rw [ht] at h;exact ⟨j,hj,e,(Option.some.inj h).symm⟩
  · exact absurd ht (h cs p)
 refine ⟨⟨?_,fun t cs p ht=> ?_,fun t u cs ds p q htu ht hu=> ?_⟩,fun t cs p ht=>by obtain ⟨j,hj,e,_⟩:=hnp t cs p ht;exact ⟨j,hj,e⟩⟩
 · refine H.inv.less (fun t av ht=> .inl ((hlk t).1 ▸ht)) (fun k cs hk=>de ▸hk) (fun p z hp=>⟨dJ ▸hp, ?_⟩) (fun t q h=>(hlk t).2.1 ▸h) (fun t u _ hx=> ?_) (fun t av j _ _ cs e=>by show look (eB (sT n)).bx j=some cs;rw [←e,←de])
   · cases p with
     |s t=>exact (hlk t).1
     |c k o=>show look (eB (sT n)).bx k=look sL.bx k;rw [de]
   · obtain ⟨sz,m,c,hx⟩:=hx
     exact ⟨sz,m,c,(hlk u).1.trans hx⟩
 · obtain ⟨j,hj,e,hv⟩:=hnp t cs p ht
   obtain ⟨b,h1,h2⟩:=H.new j cs p hj (hall j hj) hv
   exact ⟨b,e ▸h1,fun x hx=>h2 x (bS x hx)⟩
 · obtain ⟨j,hj,e,hv⟩:=hnp t cs p ht
   obtain ⟨k,hk,e',zJ⟩:=hnp u ds q hu
   have oM:j≠k:=fun h=>htu (by rw [←e,←e',h])
   have:=H.apart j k cs ds p q hj hk oM (hall j hj) (hall k hk) hv zJ
   rw [e,e'] at this;exact this
end
end Go.Proofs.YtibbgjafjhcemaaGreatDoor.Cul
namespace Go.Proofs.YtibbgjafjhcemaaGreatDoor.Cul
open Go Go.RowKit
section
variable {P:Program} {base:Nat} {w w0:World} {Pr aL:aC} {bk:Key→Nat} {st st':St} {a:Act} {N:Nat} {ops:Array Oper} {call:Cl} {aT:ef}
theorem Aw {o:Oper} {m:Made} (h:eS P call o st=some m):jC m.v=false:=by
 unfold eS at h
 split at h
 · unfold oF at h
   split at h
   · split at h
     · simp at h
     · simp only [Option.bind_eq_some_iff] at h
       obtain ⟨fU,_,r,_,h⟩:=h
       split at h
       · split at h
         · simp only [Option.some.injEq] at h;subst h;rfl
         · simp at h
       · simp at h
   · simp at h
 split at h
 · split at h
   · simp only [Option.some.injEq] at h;subst h;rfl
   · simp only [Option.some.injEq] at h;subst h;rfl
   · simp only [Option.some.injEq] at h;subst h;rfl
   · simp at h
 · simp only [Option.map_eq_some_iff] at h
   obtain ⟨z,_,rfl⟩:=h;rfl
 · simp only [Option.bind_eq_some_iff] at h
   obtain ⟨m0,_,h⟩:=h
   split at h
   · simp at h
   · rename_i hx
     simp only [Option.some.injEq] at h;subst h;simpa using hx
theorem GK (n m:Nat):cnt n (Array.replicate m false)=n:=by
 unfold cnt
 rw [List.filter_eq_self.2 (fun j _=>by rw [getD_replicate_false];rfl),List.length_range]
theorem BN (I:Inv base w Pr bk st a N):Fw w Pr w.drew Pr:=⟨(Below.refl _ _).drew,fun _ _ h=>h,fun _ _ _ h=>h,fun b o h=>by simpa using I.bH b o h⟩
theorem xQ {F:Fence} (E:iy F) (m:Nat) (hC:aH P call) (hm:P.follows .mixedOrders=true) {id:Nat} {dr:Bool} {Q:Exit→Act→World→Prop} (hok:lX N ops dr=true) (xu:∀o∈ops.toList,∀d,o.dst=some d→aT.k d=none) (G:Good base w0 aL N aT st a w) (h:kr P call ops.toList dr st=some st')
  (hQ:∀a' w',Good base w0 aL N aT st' a' w'→Q .normal a' w'):(Code.region id ops dr).wpIn F m P Q a w:=by
 simp only [lX,Bool.and_eq_true] at hok
 obtain ⟨jZ,sR⟩:=hok
 simp only [Bool.or_eq_true,Bool.not_eq_true'] at sR
 have hN:∀o∈ops.toList,∀d,o.dst=some d→d<N∧aT.k d=none:=by
  intro o ho d hd
  have:=List.all_eq_true.1 jZ o ho
  rw [hd] at this;exact ⟨by simpa using this,xu o ho d hd⟩
 cases dr with
 |false=>
  simp only [kr,Bool.false_eq_true,if_false] at h
  exact wpIn_region_list (rU E m hC hQ ops.toList st a w hN G h)
 |true=>
  simp only [kr,if_true] at h
  split at h
  · rename_i Qq
    obtain ⟨Qr,Pk⟩:=(Bool.and_eq_true _ _ ▸Qq:_∧_)
    obtain ⟨hfr,EI⟩:=(Bool.and_eq_true _ _ ▸Qr:_∧_)
    replace sR:Ai ops=true:=by
     rcases sR with (h1|h1)|h1
     · exact absurd h1 (by decide)
     · exact h1
     · rw [h1] at Pk;simpa [Ai] using Pk
    simp only [Option.bind_eq_some_iff] at h
    obtain ⟨s,hs,s2,jl,h⟩:=h
    replace sR:mj (uL call ops.toList) ops=true:=by
     unfold zw at EI
     unfold uL at EI ⊢
     cases hx:ops.toList.any (BH call) with
     |true=>rw [hx] at EI;simp only [Bool.not_true,Bool.false_or,if_true] at EI ⊢;exact EI
     |false=>simp only [Bool.false_eq_true,if_false];exact sR
    unfold mj at sR
    generalize hn:uL call ops.toList=n at*
    simp only [Bool.and_eq_true,decide_eq_true_eq] at sR
    obtain ⟨⟨⟨⟨hnlt,Of⟩,hchain⟩,hseq⟩,C3⟩:=sR
    have mM:∀i o,i<n→ops[i]? =some o→mU ops.toList n i o=true:=by
     intro i o hi ho
     have:=List.all_eq_true.1 C3 i (List.mem_range.2 hi)
     rw [ho] at this
     simp only [Bool.and_eq_true] at this
     exact this.2
    have hlen:(ops.toList.take n).length=n:=by simp;omega
    have yu:∀i,i<n→(ops.toList.take n)[i]? =ops.toList[i]? :=fun i hi=>by rw [List.getElem?_take,if_pos hi]
    have hfresh:∀i o,i<n→ops.toList[i]? =some o→pN st o=true:=by
     intro i o hi ho
     refine List.all_eq_true.1 hfr o (List.mem_of_getElem? (i:=i) ?_)
     rw [yu i hi];exact ho
    obtain ⟨bA,Qm⟩:∃bA:Nat→Nat,∀i o d,ops.toList[i]? =some o→o.dst=some d→bA i=d:=⟨fun i=>((ops.toList[i]?).bind (·.dst)).getD 0,fun i o d ho hd=>by simp only [ho,Option.bind_some,hd,Option.getD_some]⟩
    have oK:∀i o,i<n→ops.toList[i]? =some o→o.dst=some (bA i)∧aG st.gr (.s (bA i))=none∧¬dS st (bA i):=by
     intro i o hi ho
     have:=hfresh i o hi ho
     unfold pN at this
     cases hd:o.dst with
     |none=>rw [hd] at this;simp at this
     |some d=>
      rw [hd] at this
      simp only [Bool.and_eq_true,Option.isNone_iff_eq_none] at this
      rw [Qm i o d ho hd]
      refine ⟨rfl,this.1,fun ⟨sz,m,c,hx⟩=> ?_⟩
      rw [hx] at this;simp at this
    have qZ:∀i,i<n→∃o,ops.toList[i]? =some o:=fun i hi=>⟨_,List.getElem?_eq_getElem (by simp;omega)⟩
    have hinj:∀i j,i<n→j<n→bA i=bA j→i=j:=by
     intro i j hi hj e
     obtain ⟨oi,Pg⟩:=qZ i hi
     obtain ⟨oj,uR⟩:=qZ j hj
     have:=((kT (mM i oi hi (by simpa using Pg))).2.2 j hj oj (bA j) uR (oK j oj hj uR).1).2
     rcases this with this|this
     · exact this.symm
     · exact absurd ((oK i oi hi Pg).1.trans (by rw [e])) this
    obtain ⟨ms,sT,t1,t2,t3,t4,t5,t6⟩:=told (P:=P) (call:=call) (ops:=ops.toList) (s:=s) (bA:=bA) (ops.toList.take n) st
     (fun i o ho=>by
      have hi:i<n:=by have:=(List.getElem?_eq_some_iff.1 ho).1;rw [hlen] at this;exact this
      exact (oK i o hi (by rw [←yu i hi];exact ho)).1)
     (fun i j hi hj e=>hinj i j (by omega) (by omega) e) hs
    rw [hlen] at t1 t3 t4 t5 t6
    have T:Told P call ops.toList st n bA ms sT:=by
     refine ⟨fun i hi=> ?_,fun i hi o ho=>t3 i hi o (by rw [yu i hi];exact ho),t4,t5,t6⟩
     obtain ⟨o,ho⟩:=qZ i hi
     exact ⟨o,ho,(oK i o hi ho).1⟩
    have uQ:∀j,j<n→jC (ms j).v=false:=by
     intro j hj
     obtain ⟨o,ho⟩:=qZ j hj
     obtain ⟨b,_,IZ,LM⟩:=T.step j hj o ho
     cases b with
     |true=>exact Aw (IZ rfl)
     |false=>rw [LM rfl];rfl
    obtain ⟨Pr,bk,I,oJ⟩:=G
    have jL:=BN I
    have J0:JJ base w0 aL N aT st n bA ms (Array.replicate ops.size false) a w.drew st Pr bk:=by
     have hno:∀j,¬cD (Array.replicate ops.size false) j:=fun j h=>by unfold cD at h;rw [getD_replicate_false] at h;simp at h
     exact ⟨I.fw jL,⟨oJ.1.trans (jL.gB.mono I.hb),oJ.2.1,oJ.2.2.1.trans jL.ko,oJ.2.2.2.1,fun b o v h1 h2=>oJ.2.2.2.2.1 b o v h1 h2,oJ.2.2.2.2.2⟩,rfl,rfl,fun j _ hl=>absurd hl (hno j),fun t _=>⟨rfl,rfl⟩,fun j _ _ _ hl=>absurd hl (hno j),fun i _ _ _ _ _ _ _ _ hl=>absurd hl (hno i)⟩
    have QN:HeadInv .any ops n (Array.replicate ops.size false):=
     ⟨by simp,fun j oj _ hl=>(by rw [getD_replicate_false] at hl;cases hl),fun t _ ht=>getD_in (by simpa using ht) (getD_replicate_false _ _)⟩
    refine wpIn_region_any hm ?_
    have:=DZ (Q:=Q) E m hC T hnlt Of hchain hseq mM hinj
     (fun i hi=>by obtain ⟨o,ho⟩:=qZ i hi;exact (hN o (List.mem_of_getElem? ho) _ (oK i o hi ho).1).1)
     (fun i hi=>by obtain ⟨o,ho⟩:=qZ i hi;exact (oK i o hi ho).2.1)
     (fun i hi=>by obtain ⟨o,ho⟩:=qZ i hi;exact (oK i o hi ho).2.2) uQ
     (fun listed a' w' sL aD aN hall H=>by
      obtain ⟨OR,hnp⟩:=H.done T hall hinj
      rw [t1] at OR hnp
      obtain ⟨gh,I2,cc⟩:=nU (ops.toList.take n) OR (fun t cs p ht=>by
       obtain ⟨j,hj,e⟩:=hnp t cs p ht
       obtain ⟨o,ho⟩:=qZ j hj
       exact ⟨o,List.mem_of_getElem? (i:=j) (by rw [yu j hj];exact ho),by rw [←e];exact (oK j o hj ho).1⟩) jl
      exact rU E m hC hQ (ops.toList.drop n) s2 a' w' (fun o ho=>hN o (List.mem_of_mem_drop ho)) ⟨aD,gh,I2,H.chain.1,H.chain.2.1,H.chain.2.2.1,fun k b e=>(cc k (fun o ho e2=>by rw [xu o (List.mem_of_mem_take ho) k e2] at e;simp at e)).trans (H.chain.2.2.2.1 k b e),H.chain.2.2.2.2⟩ h)
     n _ a w.drew st Pr bk (GK n ops.size) QN J0
    rw [show n+(ops.size - n)=ops.size by omega] at this
    exact this
  · simp at h
theorem xp {α β:Type} {f:α→Option (List β)}:∀{r:List α} {ls:List β},r.foldr (fun i acc=>(f i).bind fun l=>acc.map (l++ ·)) (some [])=some ls→∀i∈r,∃l,f i=some l∧∀x∈l,x∈ls
 |[],ls,h,i,hi=>by simp at hi
 |j::r,ls,h,i,hi=>by
  simp only [List.foldr_cons,Option.bind_eq_some_iff,Option.map_eq_some_iff] at h
  obtain ⟨l,hl,YH,h2,rfl⟩:=h
  rcases List.mem_cons.1 hi with rfl|hi
  · exact ⟨l,hl,fun x hx=>List.mem_append_left _ hx⟩
  · obtain ⟨l2,h3,h4⟩:=xp h2 i hi
    exact ⟨l2,h3,fun x hx=>List.mem_append_right _ (h4 x hx)⟩
theorem Dq {ks:List Nat} {ls:List St} {s:St} (h:oneOf ks ls=some s):∀x∈ls,x.bG ks=s:=by
 cases ls with
 |nil=>simp [oneOf] at h
 |cons y l=>
  simp only [oneOf] at h
  split at h
  · rename_i hall
    simp only [Option.some.injEq] at h
    subst h
    intro x hx
    rcases List.mem_cons.1 hx with rfl|hx
    · rfl
    · exact hall x hx
  · simp at h
theorem M9 {F:Fence} (E:iy F) (m:Nat) (hC:aH P call) {Q:Exit→Act→World→Prop} {K:Act→World→Prop} {i:Nat} (hN:∀o∈ops.toList,∀d,o.dst=some d→d<N∧aT.k d=none) (G:Good base w0 aL N aT st a w) (h:yI (kY P call) ops i st=some st')
  (hK:∀a' w',Good base w0 aL N aT st' a' w'→K a' w'):wpOpIn F m P ops Q i K a w:=by
 obtain ⟨Pr,bk,I,gV⟩:=G
 simp only [yI,Option.bind_eq_some_iff] at h
 obtain ⟨o,ho,b,hb,h⟩:=h
 have hmem:o∈ops.toList:=List.mem_of_getElem? (i:=i) (by simpa using ho)
 have hw:=lF (ops:=ops) I hb
 unfold wpOpIn
 simp only [ho]
 rw [hw]
 cases b with
 |true=>
  simp only [if_true]
  exact mq E (jT h) (Good.step gV (fun d hd=>(hN o hmem d hd).2) (uj hC I (fun d hd=>(hN o hmem d hd).1) h) hK)
 |false=>
  simp only [Bool.false_eq_true,if_false]
  simp only [Option.some.injEq] at h
  subst h
  obtain ⟨aN,I',hbk⟩:=wV I (fun d hd=>(hN o hmem d hd).1)
  exact ⟨fun f _=>E.fn f,hK _ _ ⟨Pr,aN,I',gV.1,gV.2.1,gV.2.2.1,fun k b e=>(hbk k).trans (gV.2.2.2.1 k b e),gV.2.2.2.2.1,fun ds e=>by
   have:=gV.2.2.2.2.2 ds e
   rw [←this];cases o.dst<;>rfl⟩⟩
theorem Aq {F:Fence} (E:iy F) (m:Nat) (hC:aH P call) {Q:Exit→Act→World→Prop} (hN:∀o∈ops.toList,∀d,o.dst=some d→d<N∧aT.k d=none):
  ∀(g:Nat) (listed:Array Bool) (st:St) (a:Act) (w:World) (ls:List St),Good base w0 aL N aT st a w→pz (kY P call) ops g listed st=some ls→(∀s∈ls,∀a' w',Good base w0 aL N aT s a' w'→Q .normal a' w')→wpAnyIn F m P .any ops Q g listed a w
 |0,listed,st,a,w,ls,G,h,hQ=>by
  simp only [pz] at h
  split at h
  · rename_i he
    simp only [Option.some.injEq] at h
    subst h
    exact ⟨List.isEmpty_iff.1 he,hQ st (by simp) a w G⟩
  · simp at h
 |g+1,listed,st,a,w,ls,G,h,hQ=>by
  simp only [pz] at h
  split at h
  · simp at h
  · rename_i he
    refine ⟨fun e=>absurd (List.isEmpty_iff.2 e) he,fun i hi=> ?_⟩
    obtain ⟨l,h1,h2⟩:=xp h i hi
    simp only [Option.bind_eq_some_iff] at h1
    obtain ⟨s1,h3,h4⟩:=h1
    exact M9 E m hC hN G h3 fun a' w' G'=>Aq E m hC hN g _ s1 a' w' l G' h4 fun s hs=>hQ s (h2 s hs)
theorem Good.drew (G:Good base w0 aL N aT st a w):Good base w0 aL N aT st a w.drew:=by
 obtain ⟨Pr,bk,I,oJ⟩:=G
 have jL:=BN I
 exact ⟨Pr,bk,I.fw jL,oJ.1.trans (jL.gB.mono I.hb),oJ.2.1,oJ.2.2.1.trans jL.ko,oJ.2.2.2.1,fun b o v h1 h2=>oJ.2.2.2.2.1 b o v h1 h2,oJ.2.2.2.2.2⟩
theorem KB {F:Fence} (E:iy F) (m:Nat) (hC:aH P call) (hm:P.follows .mixedOrders=true) {id:Nat} {Q:Exit→Act→World→Prop} {ls:List St} (hok:lX N ops true=true) (xu:∀o∈ops.toList,∀d,o.dst=some d→aT.k d=none) (G:Good base w0 aL N aT st a w) (h:pz (kY P call) ops ops.size (Array.replicate ops.size false) st=some ls)
  (hQ:∀s∈ls,∀a' w',Good base w0 aL N aT s a' w'→Q .normal a' w'):(Code.region id ops true).wpIn F m P Q a w:=by
 simp only [lX,Bool.and_eq_true] at hok
 have hN:∀o∈ops.toList,∀d,o.dst=some d→d<N∧aT.k d=none:=by
  intro o ho d hd
  have:=List.all_eq_true.1 hok.1 o ho
  rw [hd] at this;exact ⟨by simpa using this,xu o ho d hd⟩
 exact wpIn_region_any hm (Aq E m hC hN _ _ st a _ ls G.drew h hQ)
end
end Go.Proofs.YtibbgjafjhcemaaGreatDoor.Cul
namespace Go.Proofs.YtibbgjafjhcemaaGreatDoor.Cul
open Go Go.RowKit
section
variable {aT:ef} {P:Program} {base:Nat} {w w' w0:World} {Pr aL:aC} {bk:Key→Nat} {st:St} {a:Act} {N:Nat} {r:Nat}
def aC.less (Pr:aC) (r:Nat):aC:=fun b o=>Pr b o∧b≠r
theorem k7 {o:Obj} (h:w.heap[r]? =some o) (hc:o.isCells=false) (i:Nat):w.cell? ⟨r,i,none⟩=none:=by
 unfold World.cell?
 simp only [h]
 cases o<;>simp_all [Obj.isCells]
mutual
theorem Rp.shrink (hr:∀i,w.cell? ⟨r,i,none⟩=none):∀{p:PV} {v:Value},Rp w Pr p v→Rp w (Pr.less r) p v
 |_,_, .lit h=> .lit h
 |_,_, .sl uU h1 hl hn hc hp=> .sl (aM.shrink hr uU) h1 hl hn hc (fun i hi=>⟨hp i hi,fun e=>by
  have:=hc i _ (List.getElem?_eq_getElem hi);rw [e,hr] at this;simp at this⟩)
 |_,_, .nV=> .nV
 |_,_, .el uU h1 hc hp=> .el (aM.shrink hr uU) h1 hc (fun i hi=>⟨hp i hi,fun e=>by
  have:=hc i _ (List.getElem?_eq_getElem hi);rw [e,hr] at this;simp at this⟩)
 |_,_, .fn uU=> .fn (aM.shrink hr uU)
 |_,_, .ag uU h1=> .ag (aM.shrink hr uU) h1
 |_,_, .aQ uU=> .aQ (aM.shrink hr uU)
theorem aM.shrink (hr:∀i,w.cell? ⟨r,i,none⟩=none):∀{cs:List PV} {vs:List Value},aM w Pr cs vs→aM w (Pr.less r) cs vs
 |_,_, .nil=> .nil
 |_,_, .cons h hs=> .cons (Rp.shrink hr h) (aM.shrink hr hs)
end
theorem Dd (I:Inv base w Pr bk st a N) {x:Key} (hx:live st x):∃c T,w.heap[bk x]? =some (.cells c T (0,0)):=by
 cases x with
 |bx k=>obtain ⟨cs,h⟩:=hx;obtain ⟨⟨T,c,vs,h1,_⟩,_⟩:=I.boxes k cs h;exact ⟨_,T,h1⟩
 |sx t=>
  rcases hx with ⟨sz,n,cs,h⟩|⟨z,h⟩
  · obtain ⟨v,_,o,cap,vs,_,_,_,_,_,h6,_⟩:=I.slots t _ h
    obtain ⟨c,T,e,_⟩:=h6.there;exact ⟨c,T,e⟩
  · obtain ⟨_,_,_,_,_,_,h3,_⟩:=I.gE t z h
    obtain ⟨c,T,e,_⟩:=h3.there;exact ⟨c,T,e⟩
 |cx k o=>
  obtain ⟨z,h⟩:=hx
  obtain ⟨_,_,_,_,_,_,_,_,h4,_⟩:=I.ig k o z h
  obtain ⟨c,T,e,_⟩:=h4.there;exact ⟨c,T,e⟩
theorem dD.hO {t:Nat} {av:AV} {v:Value} (k1:∀{p v},Rp w Pr p v→Rp w' (Pr.less r) p v) (k2:∀{cs vs},aM w Pr cs vs→aM w' (Pr.less r) cs vs)
  (hex:∀sz n cs,av= .ex sz n cs→w'.heap[bk (.sx t)]? =w.heap[bk (.sx t)]?) (jY:∀k c T,w.heap[bk (.bx k)]? =some (.cells c T (0,0))→∃c',w'.heap[bk (.bx k)]? =some (.cells c' T (0,0))∧c'.size=c.size) (h:dD st a w Pr bk t av v):dD st a w' (Pr.less r) bk t av v:=by
 cases av with
 |pv p=>exact k1 h
 |bp k off=>exact h
 |cl f caps=>
  obtain ⟨vs,h1,h2,h3⟩:=h
  refine ⟨vs,h1,h2,fun i c u hc hu=> ?_⟩
  have:=h3 i c u hc hu
  cases c with
  |pv p=>exact k1 this
  |bp k off=>exact this
 |ex sz n cs=>
  obtain ⟨o,cap,vs,h1,h2,h3,h4,h5,h6,h7⟩:=h
  have he:=hex sz n cs rfl
  exact ⟨o,cap,vs,h1,k2 h2,h3,h4,iO he h5,⟨h6.hz,h6.le,by obtain ⟨c,T,e1,e2⟩:=h6.there;exact ⟨c,T,he.trans e1,e2⟩,fun o' ho=>h6.pr o' ho.1⟩,fun o' ho=>h7 o' ho.1⟩
 |xr u=>exact h
 |xe u off=>exact h
 |bV _ _=>exact h
 |dead=>trivial
 |bs j off sz n=>exact h.world (jY j)
 |mv f j off sz n=>obtain ⟨u,h1,h2⟩:=h;exact ⟨u,h1,h2.world (jY j)⟩
 |tg j off sz n rest=>obtain ⟨u,us,h1,h2,h3⟩:=h;exact ⟨u,us,h1,h2.world (jY j),k2 h3⟩
theorem Inv.hO (I:Inv base w Pr bk st a N) {row:Option Nat} (hg:w.grownBy w' row) (hr:∀r',row=some r'→r'=r) {o:Obj} (ho:w.heap[r]? =some o) (hc:o.isCells=false) (hd:∀d∈a.defers,d≠{ target:= .collected r,args:= #[]}):
  Inv base w' (Pr.less r) bk st a N:=by
 have hnone:=k7 ho hc
 have hsame:∀k,k<w.heap.size→k≠r→w'.heap[k]? =w.heap[k]? :=fun k hk hne=>hg.block k hk (fun e=>hne (hr k e.symm))
 have rj:∀x,live st x→bk x≠r:=fun x hx e=>by
  obtain ⟨c,T,h⟩:=Dd I hx
  rw [e,ho] at h;cases h;simp [Obj.isCells] at hc
 have hlv:∀x,live st x→w'.heap[bk x]? =w.heap[bk x]? :=fun x hx=>hsame _ (I.own x hx).2 (rj x hx)
 have hK:Kp w (Pr.less r) w' (Pr.less r):=⟨fun _ _ h=>h,fun b i h=>World.cell?_of_block (w:=w) (hsame b (I.bH b i h.1) h.2)⟩
 have k1:∀{p v},Rp w Pr p v→Rp w' (Pr.less r) p v:=fun h=>Rp.mono hK (Rp.shrink hnone h)
 have k2:∀{cs vs},aM w Pr cs vs→aM w' (Pr.less r) cs vs:=fun h=>aM.mono hK (aM.shrink hnone h)
 have hroom:∀x,live st x→∀{o n cap sz},Room w Pr (bk x) o n cap sz→Room w' (Pr.less r) (bk x) o n cap sz:=fun x hx {o n cap sz} h=>
  ⟨h.hz,h.le,by obtain ⟨c,T,e1,e2⟩:=h.there;exact ⟨c,T,(hlv x hx).trans e1,e2⟩,fun o' ho=>h.pr o' ho.1⟩
 constructor
 · exact I.size
 · refine ⟨fun d zu=> ?_,I.defers.2⟩
   obtain ⟨D,e1,e2,e3⟩:=I.defers.1 d zu
   have hne:D≠r:=fun e=>hd d zu (by rw [e1,e])
   exact ⟨D,e1,(hsame D (Array.getElem?_eq_some_iff.1 e2).1 hne).trans e2,e3⟩
 · exact Nat.le_trans I.hb hg.size
 · exact fun b i h=>Nat.lt_of_lt_of_le (I.bH b i h.1) hg.size
 · intro t av ht
   obtain ⟨v,hv,cQ⟩:=I.slots t av ht
   exact ⟨v,hv,dD.hO k1 k2 (fun sz n cs e=>hlv (.sx t) (.inl ⟨sz,n,cs,by rw [←e];exact ht⟩)) (fun j c T e=>⟨c,(hsame _ (Array.getElem?_eq_some_iff.1 e).1 (fun e2=>by rw [e2,ho] at e;cases e;simp [Obj.isCells] at hc)).trans e,rfl⟩) cQ⟩
 · exact fun x hx=>⟨(I.own x hx).1,Nat.lt_of_lt_of_le (I.own x hx).2 hg.size⟩
 · exact I.inj
 · intro k cs hq
   obtain ⟨⟨T',c',us',e1,e0,e2,e3⟩,e4⟩:=I.boxes k cs hq
   exact ⟨⟨T',c',us',(hlv (.bx k) ⟨cs,hq⟩).trans e1,e0,k2 e2,e3⟩,fun o ho=>e4 o ho.1⟩
 · intro t z hz
   obtain ⟨o',n,cap,c,e1,e2,e3,e0⟩:=I.gE t z hz
   exact ⟨o',n,cap,c,e1,e2,hroom (.sx t) (.inr ⟨z,hz⟩) e3,e0⟩
 · intro k i z hz
   obtain ⟨o',n,cap,c,dc,e1,e2,e3,e4,e0⟩:=I.ig k i z hz
   exact ⟨o',n,cap,c,dc,e1,e2,(World.cell?_of_block (w:=w) (hlv (.bx k) ⟨dc,e1⟩)).trans e3,hroom (.cx k i) ⟨z,hz⟩ e4,e0⟩
 · intro t q ht hq
   rw [←I.tags t q ht hq]
   cases q with
   |s x=>rfl
   |c k i=>
    obtain ⟨z,hz⟩:=hq
    obtain ⟨o',n,cap,c,dc,e1,e2,e3,e4,e0⟩:=I.ig k i z hz
    exact World.cell?_of_block (w:=w) (hlv (.bx k) ⟨dc,e1⟩)
theorem KO.grown {w0 w w':World} {r0:Option Nat} (fW:KO w0 w) (hg:w.grownBy w' r0) (hr:∀r,r0=some r→w0.heap.size≤r):KO w0 w':=by
 have hb:∀k o,k<w0.heap.size→w.heap[k]? =some o→w'.heap[k]? =some o:=fun k o hk h=>
  (hg.block k (Array.getElem?_eq_some_iff.1 h).1 (fun e=>by have:=hr k e.symm;omega)).trans h
 exact ⟨⟨Nat.le_trans fW.size hg.size,fun k o h ho=>hb k o (Array.getElem?_eq_some_iff.1 h).1 (fW.same k o h ho)⟩,fun k c T fz h=>by
  obtain ⟨c',h3,h4⟩:=fW.sized k c T fz h
  exact ⟨c',hb k _ (Array.getElem?_eq_some_iff.1 h).1 h3,h4⟩⟩
theorem Inv.marks (I:Inv base w Pr bk st a N) {ds:List Deferred} (h:∀d∈ds,Mark base w d) (hn:ds.Nodup):Inv base w Pr bk st { a with defers:=ds} N:=
 ⟨I.size,⟨h,hn⟩,I.hb,I.bH,fun t av ht=>(by
   obtain ⟨v,hv,hr⟩:=I.slots t av ht
   exact ⟨v,hv,by cases av<;>exact hr⟩),I.own,I.inj,I.boxes,I.gE,I.ig,fun t q ht hq=>(by
   have:=I.tags t q ht hq
   cases q<;>exact this)⟩
theorem xC {F:Fence} {n:Nat} {fn:Func} {R:Ending→World→Prop} (hb0:base=w0.heap.size) (hz:aT.ds=none) (hR:∀(tmps:Array Value) (w:World),Good base w0 aL N aT st { tmps:=tmps,defers:=[]} w→∃v,(results fn tmps).run P w= .ok v w∧R (.returned v) w):
  ∀(ds:List Deferred) (tmps:Array Value) (w:World),Good base w0 aL N aT st { tmps:=tmps,defers:=ds} w→LeavesInM F n P fn tmps R ds .returning w
 |[],tmps,w,G=>by
  obtain ⟨v,h1,h2⟩:=hR tmps w G
  exact ⟨v,h1,h2⟩
 |d::ds,tmps,w,G=>by
  obtain ⟨Pr,bk,I,hb,hp,fW,eW,hkc,_⟩:=G
  obtain ⟨D,e1,e2,e3⟩:=I.defers.1 d (by simp)
  have sU:=I.defers.2
  simp only [List.nodup_cons] at sU
  refine ⟨by simp, .inl ⟨D,_,by rw [e1],run_takeDeferred e2,xC hb0 hz hR ds tmps _ ?_⟩⟩
  have I1:=I.marks (ds:=ds) (fun d' hd'=>I.defers.1 d' (List.mem_cons_of_mem _ hd')) sU.2
  have hg:w.grownBy (w.putObj D (.deferred none)) (some D):=grownBy_putObj' w D _
  have I2:=I1.hO hg (r:=D) (fun r' e=>by cases e;rfl) e2 rfl (fun d' hd' e=>sU.1 (by rw [e1,←e];exact hd'))
  refine ⟨_,bk,I2,hb.grown hg (Nat.le_trans (Nat.le_of_eq hb0) hb.size) (fun k e=>by cases e;exact e3),fun b o hlt h=>hp b o hlt h.1,⟨⟨Nat.le_trans fW.size (by simp),fun k o h ho=> ?_⟩,fun k c T fz h=> ?_⟩,eW,fun b o v h1 h2=> ?_,fun ds' e=>by rw [hz] at e;simp at e⟩
  rotate_left
  · obtain ⟨c',h3,h4⟩:=fW.sized k c T fz h
    have hk:k≠D:=fun e=>by
     have:=(Array.getElem?_eq_some_iff.1 h).1;omega
    exact ⟨c',by rw [World.putObj_heap_other hk];exact h3,h4⟩
  · obtain ⟨h3,h4⟩:=hkc b o v h1 h2
    have O5:b≠D:=fun e=>by subst e;rw [k7 e2 rfl] at h4;simp at h4
    exact ⟨⟨h3,O5⟩,(World.cell?_of_block (w:=w) (a:=⟨b,o,none⟩) (World.putObj_heap_other O5)).trans h4⟩
  have hk:k≠D:=fun e=>by
   have:=(Array.getElem?_eq_some_iff.1 h).1;omega
  rw [World.putObj_heap_other hk]
  exact fW.same k o h ho
end
end Go.Proofs.YtibbgjafjhcemaaGreatDoor.Cul
namespace Go.Proofs.YtibbgjafjhcemaaGreatDoor.Cul
open Go Go.RowKit
def ia (Pi:aC) (A B:World):Prop:=∀b o v,Pi b o→A.cell? ⟨b,o,none⟩=some v→B.cell? ⟨b,o,none⟩=some v
theorem ia.trans {Pi:aC} {A B C:World} (h:ia Pi A B) (k:ia Pi B C):ia Pi A C:=fun b o v h1 h2=>k b o v h1 (h b o v h1 h2)
theorem ia.hO {Pi:aC} {W:World} {l:Nat} {o:Obj} (o':Obj) (h:W.heap[l]? =some o) (hc:o.isCells=false):ia Pi W (W.putObj l o'):=fun b i v h1 h2=>by
 have hb:b≠l:=fun e=>by subst e;rw [k7 h hc] at h2;simp at h2
 exact (World.cell?_of_block (w:=W) (a:=⟨b,i,none⟩) (World.putObj_heap_other hb)).trans h2
def aC.plus (Pr:aC) (A B:World):aC:=fun b o=>Pr b o∨(A.heap.size≤b∧∃v,B.cell? ⟨b,o,none⟩=some v)
def aC.here (Pr:aC) (w:World):aC:=fun b o=>Pr b o∧∃v,w.cell? ⟨b,o,none⟩=some v
def CA (P:Program) (n:Nat) (g:Nat) (lb:Array Value) (enc:Nat→Array Value) (N:Nat) (Pr:aC) (w:World):Prop:=
 ∀(l:Nat) (J:Nat→aC→World→Prop) (Jx:World→Prop) (W:World),Below w.heap.size w W→(∀k Pi A B,J k Pi A→A.grownBy B none→J k (Pi.plus A B) B)→(∀A B,Jx A→A.grownBy B none→Jx B)→
  (∀k Pi W1,J k Pi W1→k<N→YieldAt Fence.wide (n - 1) P l (enc k) W1 fun e W'=>(e= .returned (.bool true)∧J (k+1) Pi W'∧ia Pi W1 W'∧W1.heap.size≤W'.heap.size)∨(e= .returned (.bool false)∧Jx W'))→
  J 0 (Pr.here w) W→CallsIn Fence.wide n P g (#[.func (.yield l) #[] #[]]++lb) W fun e W'=>(∃v,e= .returned v)∧((∃Pi,J N Pi W')∨Jx W')
def Ih (B:Nat) (Pi:aC) (I:World→Prop) (Ix:Code→World→Prop) (W:World):Exit→Act→World→Prop
 | .normal,_,W'=>KeepsFrom B W W'∧ia Pi W W'∧I W'
 | .ret,_,W'=>KeepsFrom B W W'∧Ix .ret W'
 | .exit id,_,W'=>KeepsFrom B W W'∧Ix (.exit id) W'
 |_,_,_=>False
def vY (B:Nat) (I:World→Prop):Prop:=∀(W:World) (l:Nat) (o o':Obj),I W→B≤l→W.heap[l]? =some o→o.isCells=false→o'.isCells=false→I (W.putObj l o')
theorem rQ {P:Program} {n:Nat} {g:Operand} {ps:Array Tmp} {assign body:Code} {Q:Exit→Act→World→Prop} {a:Act} {w:World}
  (h1:1≤n) {gf:Nat} {lb:Array Value} (hg:a.eval g= .func (.func gf) #[] lb) (eg:∀args w,(callFunc gf args).run P w= .ok (.enter gf args) w)
  {enc:Nat→Array Value} {Pr:aC} {N:Nat} (hseq:CA P (n - 1) gf lb enc N Pr w)
  (hps:∀k,k<N→(enc k).size=ps.size)
  (I:Nat→aC→World→Prop) (Ix:Code→World→Prop) (hI:∀k Pi,vY w.heap.size (I k Pi)) (hIx:∀c,vY w.heap.size (Ix c)) (TY:∀k Pi A B,I k Pi A→A.grownBy B none→I k (Pi.plus A B) B) (LG:∀A B,I 0 (Pr.here w) A→A.grownBy B none→I 0 (Pr.here w) B) (Qe:∀c A B,Ix c A→A.grownBy B none→Ix c B) (h0:I 0 (Pr.here w) w)
  (Ax:Nat→aC→Act→World→Prop) (hAx:∀k Pi a',vY w.heap.size (Ax k Pi a'))
  (hassign:∀(l k:Nat) (Pi:aC) (W:World) (K:Act→World→Prop),I k Pi W→k<N→(∀a' W',KeepsFrom w.heap.size W W'→ia Pi W W'→Ax k Pi a' W'→K a' W')→
   assign.wpIn (Fence.wide.inRound l) (n - 1 - 1) P (Exit.then K (fun _ _ _=>False)) { tmps:=(ps.zip (enc k)).foldl (fun t (p,v)=>t.setIfInBounds p v) a.tmps,defers:=[]} W)
  (hbody:∀(l k:Nat) (Pi:aC) (a':Act) (W:World),Ax k Pi a' W→k<N→body.wpIn (Fence.wide.inRound l) (n - 1 - 1) P (Ih w.heap.size Pi (I (k+1) Pi) Ix W) a' W)
  (hdone:∀(D:Nat) (Pi:aC) (W:World),w.heap.size≤D→I N Pi W→W.heap[D]? =some (.deferred (some []))→Q .normal { a with defers:={ target:= .collected D,args:= #[]}::a.defers} W)
  (hstop:∀(D:Nat) (c:Code) (W:World),w.heap.size≤D→Ix c W→W.heap[D]? =some (.deferred (some []))→c.wpIn Fence.wide n P Q { a with defers:={ target:= .collected D,args:= #[]}::a.defers} W):
  (Code.rangeFunc g ps assign body).wpIn Fence.wide n P Q a w:=by
 refine wpIn_rangeFunc ?_
 intro fn hfn
 obtain ⟨rec,om⟩:∃rec:LoopState→Option Code→Loop,rec=fun st pe=>{ state:=st,pending:=pe,fn,tmps:=a.tmps,params:=ps,assign,body,defers:=w.heap.size}:=⟨_,rfl⟩
 obtain ⟨W1,Ez⟩:∃W1,(w.alloc (.deferred (some []))).alloc (.loop (rec .ready none))=W1:=⟨_,rfl⟩
 have T6:W1.heap[w.heap.size+1]? =some (.loop (rec .ready none)):=by
  rw [←Ez];have:=World.alloc_heap_new (w.alloc (.deferred (some []))) (.loop (rec .ready none));rwa [World.size_alloc] at this
 have IV:W1.heap[w.heap.size]? =some (.deferred (some [])):=by
  rw [←Ez];exact (Below.heap_alloc _ _ _ (by simp)).trans (World.alloc_heap_new w _)
 have TX:I 0 (Pr.here w) W1:=by rw [←Ez];exact LG _ _ (LG _ _ h0 (World.grownBy_alloc _ _ none)) (World.grownBy_alloc _ _ none)
 have fk:Below w.heap.size w W1:=by
  rw [←Ez];exact ((Below.refl _ w).alloc (Nat.le_refl _) _).alloc (by simp) _
 have still:∀{A B:World} {k:Nat} {o:Obj},A.grownBy B none→A.heap[k]? =some o→B.heap[k]? =some o:=fun hg hk=>(hg.block _ (Array.getElem?_eq_some_iff.1 hk).1 (by simp)).trans hk
 refine ⟨w.heap.size+1,[{ target:= .collected w.heap.size,args:= #[]}],W1,{ target:= .fn (.func gf) lb,args:= #[.func (.yield (w.heap.size+1)) #[] #[]]},W1,gf,
  #[.func (.yield (w.heap.size+1)) #[] #[]]++lb,W1, ?_, ?_,fun _ _=>trivial, ?_,fun _=>h1, ?_⟩
 · rw [←Ez,om];exact run_enterLoop_outer _ _ _ _ _
 · simp only [resolve,hg]
   simp [go_sem]
 · simp [invoke,go_sem,eg]
 · refine (hseq (w.heap.size+1)
     (fun k Pi W=>I k Pi W∧W.heap[w.heap.size+1]? =some (.loop (rec .ready none))∧W.heap[w.heap.size]? =some (.deferred (some [])))
     (fun W=>∃c,Ix c W∧W.heap[w.heap.size+1]? =some (.loop (rec .done (some c)))∧W.heap[w.heap.size]? =some (.deferred (some [])))
     W1 fk (fun k Pi A B hs hg'=>⟨TY k Pi A B hs.1 hg',still hg' hs.2.1,still hg' hs.2.2⟩)
     (fun A B hs hg'=>by obtain ⟨c,hc,hl,hk⟩:=hs;exact ⟨c,Qe c A B hc hg',still hg' hl,still hg' hk⟩)
     ?_ ⟨TX,T6,IV⟩).mono ?_
   ·
    rintro k Pi W ⟨hi,hl,hk⟩ hlen
    have hy:=run_yield (P:=P) (args:=enc k) hl (by rw [om];exact hps k hlen)
    rw [om] at hy
    refine ⟨fn,_,assign,body,hy,roundIn_of_wpIn hfn (hassign _ k Pi W _ hi hlen ?_)⟩
    clear hy
    intro a' Wa EL hkp Ub
    have hla:=EL.same _ _ (by omega) hl rfl
    have hka:=EL.same _ _ (Nat.le_refl _) hk rfl
    have hlt:w.heap.size+1<Wa.heap.size:=(Array.getElem?_eq_some_iff.1 hla).1
    refine ⟨_,run_beginRound hla (by rw [om]), ?_⟩
    have mN:(Wa.putObj (w.heap.size+1) (.loop { rec .ready none with state:= .busy})).heap[w.heap.size+1]? =some (.loop { rec .ready none with state:= .busy}):=World.putObj_heap_same hlt
    have hk2:(Wa.putObj (w.heap.size+1) (.loop { rec .ready none with state:= .busy})).heap[w.heap.size]? =some (.deferred (some [])):=(World.putObj_heap_other (by omega)).trans hka
    have zK:ia Pi Wa (Wa.putObj (w.heap.size+1) (.loop { rec .ready none with state:= .busy})):=ia.hO _ hla rfl
    refine wpIn_mono (hbody _ k Pi a' _ (hAx k Pi a' _ _ _ _ Ub (by omega) hla rfl rfl) hlen) ?_
    have fin:∀(jump:Option Code) (W3:World),KeepsFrom w.heap.size (Wa.putObj (w.heap.size+1) (.loop { rec .ready none with state:= .busy})) W3→
      (Instr.endRound (w.heap.size+1) jump).run P W3= .ok (.bool jump.isNone) (W3.putObj (w.heap.size+1) (.loop (rec (if jump.isNone then .ready else .done) jump)))∧
      W3.heap[w.heap.size+1]? =some (.loop { rec .ready none with state:= .busy})∧
      (W3.putObj (w.heap.size+1) (.loop (rec (if jump.isNone then .ready else .done) jump))).heap[w.heap.size+1]? =some (.loop (rec (if jump.isNone then .ready else .done) jump))∧
      (W3.putObj (w.heap.size+1) (.loop (rec (if jump.isNone then .ready else .done) jump))).heap[w.heap.size]? =some (.deferred (some [])):=fun jump W3 uN=>by
     have mO:=uN.same _ _ (by omega) mN rfl
     have:=run_endRound (P:=P) jump mO
     rw [om] at this ⊢
     exact ⟨this,by rw [om] at mO;exact mO,World.putObj_heap_same (Array.getElem?_eq_some_iff.1 mO).1,(World.putObj_heap_other (by omega)).trans (uN.same _ _ (Nat.le_refl _) hk2 rfl)⟩
    rintro e a3 W3 hp
    cases e with
    |normal=>
     obtain ⟨uN,Qx,uM⟩:=hp
     obtain ⟨hr,mO,EM,EK⟩:=fin none W3 uN
     exact ⟨_,_,hr, .inl ⟨rfl,⟨hI _ _ _ _ _ _ uM (by omega) mO rfl rfl,EM,EK⟩,hkp.trans ((zK.trans Qx).trans (ia.hO _ mO rfl)),by
      have h1:=EL.size
      have h2:=uN.size
      simp at h2 ⊢
      omega⟩⟩
    |ret=>
     obtain ⟨uN,uM⟩:=hp
     obtain ⟨hr,mO,EM,EK⟩:=fin (some .ret) W3 uN
     exact ⟨_,_,hr, .inr ⟨rfl, .ret,hIx _ _ _ _ _ uM (by omega) mO rfl rfl,EM,EK⟩⟩
    |exit id=>
     obtain ⟨uN,uM⟩:=hp
     obtain ⟨hr,mO,EM,EK⟩:=fin (some (.exit id)) W3 uN
     exact ⟨_,_,hr, .inr ⟨rfl, .exit id,hIx _ _ _ _ _ uM (by omega) mO rfl rfl,EM,EK⟩⟩
    |goto t=>exact hp.elim
    |panic ch=>exact hp.elim
    |outgrown=>exact hp.elim
   ·
    rintro e W2 ⟨⟨v,rfl⟩,(⟨Pi,hi,hl,hk⟩|⟨c,hi,hl,hk⟩)⟩
    · exact ⟨none,_,by have:=run_endLoop (P:=P) hl (by rw [om];simp);rw [om] at this;exact this,hdone _ Pi _ (Nat.le_refl _) (hI _ _ _ _ _ _ hi (by omega) hl rfl rfl) ((World.putObj_heap_other (by omega)).trans hk)⟩
    · exact ⟨some c,_,by have:=run_endLoop (P:=P) hl (by rw [om];simp);rw [om] at this;exact this,hstop _ c _ (Nat.le_refl _) (hIx _ _ _ _ _ hi (by omega) hl rfl rfl) ((World.putObj_heap_other (by omega)).trans hk)⟩
end Go.Proofs.YtibbgjafjhcemaaGreatDoor.Cul
namespace Go.Proofs.YtibbgjafjhcemaaGreatDoor.Cul
open Go Go.RowKit
section
variable {aT:ef} {P:Program} {base:Nat} {w w' w0:World} {Pr aD aL:aC} {bk aN:Key→Nat} {st cP s2:St} {a a':Act} {N:Nat}
def Carry (w:World) (Pr:aC) (w':World) (aD:aC):Prop:=∀b o v,Pr b o→w.cell? ⟨b,o,none⟩=some v→aD b o∧w'.cell? ⟨b,o,none⟩=some v
mutual
theorem Rp.carry (c:Carry w Pr w' aD):∀{p:PV} {v:Value},Rp w Pr p v→Rp w' aD p v
 |_,_, .lit h=> .lit h
 |_,_, .sl hr h1 hl hn hc hp=> .sl (aM.carry c hr) h1 hl hn (fun j v hj=>(c _ _ v (hp j (List.getElem?_eq_some_iff.1 hj).1) (hc j v hj)).2) (fun i hi=>(c _ _ _ (hp i hi) (hc i _ (List.getElem?_eq_getElem hi))).1)
 |_,_, .nV=> .nV
 |_,_, .el hr h1 hc hp=> .el (aM.carry c hr) h1 (fun j v hj=>(c _ _ v (hp j (List.getElem?_eq_some_iff.1 hj).1) (hc j v hj)).2) (fun i hi=>(c _ _ _ (hp i hi) (hc i _ (List.getElem?_eq_getElem hi))).1)
 |_,_, .fn hr=> .fn (aM.carry c hr)
 |_,_, .ag hr h1=> .ag (aM.carry c hr) h1
 |_,_, .aQ hr=> .aQ (aM.carry c hr)
theorem aM.carry (c:Carry w Pr w' aD):∀{cs:List PV} {vs:List Value},aM w Pr cs vs→aM w' aD cs vs
 |_,_, .nil=> .nil
 |_,_, .cons h hs=> .cons (Rp.carry c h) (aM.carry c hs)
end
theorem Good.own {r0:Option Nat} {ds:List Deferred} (hds:aT.ds=some ds) (hm:∀d∈ds,Mark base w0 d) (qz:base≤w0.heap.size) (G:Good base w0 aL N aT st a w) (hg:w.grownBy w' r0) (hr:∀r,r0=some r→w0.heap.size≤r∧∃o:Obj,w.heap[r]? =some o∧o.isCells=false):Good base w0 aL N aT st a w':=by
 obtain ⟨Pr,bk,I,hb,hp,fW,eW,hkc,hdf⟩:=G
 have hkeep:KO w0 w':=fW.grown hg (fun r e=>(hr r e).1)
 have iE:Below base w0 w':=hb.grown hg (Nat.le_trans qz hb.size) (fun k e=>Nat.le_trans qz (hr k e).1)
 cases r0 with
 |none=>
  have hf:Fw w Pr w' Pr:=⟨(Below.refl _ w).grown hg (Nat.le_refl _) (by simp),fun _ _ h=>h,fun _ _ _ h=>h,fun b o h=>Nat.lt_of_lt_of_le (I.bH b o h) hg.size⟩
  refine ⟨Pr,bk,I.fw hf,iE,hp,hkeep,eW,fun b o v h1 h2=> ?_,hdf⟩
  obtain ⟨h3,h4⟩:=hkc b o v h1 h2
  exact ⟨h3,((hf.kp I.bH).cell b o h3).trans h4⟩
 |some r=>
  obtain ⟨hlo,o,ho,hc⟩:=hr r rfl
  have I2:=I.hO hg (r:=r) (fun r' e=>by cases e;rfl) ho hc (fun d hd e=>by
   rw [hdf ds hds] at hd
   obtain ⟨D,e1,e2,_⟩:=hm d hd
   rw [e1] at e
   have:D=r:=by simpa using e
   have:=(Array.getElem?_eq_some_iff.1 e2).1
   omega)
  refine ⟨_,bk,I2,iE,fun b o hlt h=>hp b o hlt h.1,hkeep,eW,fun b i v h1 h2=> ?_,hdf⟩
  obtain ⟨h3,h4⟩:=hkc b i v h1 h2
  have EC:b≠r:=fun e=>by subst e;rw [k7 ho hc] at h4;simp at h4
  refine ⟨⟨h3,EC⟩,(World.cell?_of_block (w:=w) (a:=⟨b,i,none⟩) ?_).trans h4⟩
  exact hg.block b (I.bH b i h3) (fun e=>EC (by cases e;rfl))
structure K7 (ks:List Nat) (cP:St):Prop where
 sl:∀t av,look cP.sl t=some av→(∃p,av= .pv p)∨(∃k off,av= .bp k off∧ks.contains k=false)∨(∃f caps,av= .cl f caps∧caps.any (ym ks)=false)∨av= .dead
 bx:∀k cs,look cP.bx k=some cs→ks.contains k=false
theorem xI (st:St) (ks:List Nat) (t:Nat):look (st.hH ks).sl t=(look st.sl t).map (qq ks):=bQ (JH ks) (fun _ v=>qq ks v) (fun _=>rfl) st.sl t
theorem rJ (st:St) (ks:List Nat):K7 ks (st.hH ks):=by
 constructor
 · intro t av h
   rw [xI] at h
   cases e:look st.sl t with
   |none=>simp [e] at h
   |some v=>
    simp only [e,Option.map_some,Option.some.injEq] at h
    subst h
    cases v with
    |pv p=>exact .inl ⟨p,rfl⟩
    |bp k off=>
     simp only [qq]
     cases hk:ks.contains k with
     |true=>simp
     |false=>exact .inr (.inl ⟨k,off,by simp,hk⟩)
    |cl f caps=>
     simp only [qq]
     cases hk:caps.any (ym ks) with
     |true=>simp
     |false=>exact .inr (.inr (.inl ⟨f,caps,by simp,hk⟩))
    |_=>exact .inr (.inr (.inr rfl))
 · intro k cs h
   simp only [St.hH] at h
   rw [jm (fun x=> !ks.contains x)] at h
   split at h
   · rename_i hk;simpa using hk
   · simp at h
theorem Inv.hH (I:Inv base w Pr bk st a N) (ks:List Nat):Inv base w Pr bk (st.hH ks) a N:=by
 refine I.less (fun t av h=> ?_) (fun k cs h=> ?_) (fun p z h=> ?_) (fun t q h=>by simp [St.hH,look] at h) (fun t u h _=> ?_) (fun t av j h hj _ _=> ?_)
 · rw [xI] at h
   cases e:look st.sl t with
   |none=>simp [e] at h
   |some v=>
    simp only [e,Option.map_some,Option.some.injEq] at h
    obtain ⟨u,hu,_⟩:=I.slots t v e
    subst h
    cases v with
    |pv p=>exact .inl rfl
    |bp k off=>
     simp only [qq]
     split
     · exact .inr ⟨rfl,u,hu⟩
     · exact .inl rfl
    |cl f caps=>
     simp only [qq]
     split
     · exact .inr ⟨rfl,u,hu⟩
     · exact .inl rfl
    |_=>exact .inr ⟨rfl,u,hu⟩
 · simp only [St.hH] at h
   rw [jm (fun x=> !ks.contains x)] at h
   split at h
   · exact h
   · simp at h
 · simp only [St.hH] at h
   rw [dY (Pl.sW fun k=> !ks.contains k)] at h
   split at h
   · rename_i hk
     refine ⟨h, ?_⟩
     cases p with
     |s t=>simp [Pl.sW] at hk
     |c k o=>
      simp only [Pl.sW] at hk
      show look (st.hH ks).bx k=look st.bx k
      simp only [St.hH]
      rw [jm (fun x=> !ks.contains x),if_pos hk]
   · simp at h
 · exfalso
   have:=(rJ st ks).sl t
   rcases h with h|⟨off,h⟩
   · rcases this _ h with ⟨p,e⟩|⟨k,o,e,_⟩|⟨f,c,e,_⟩|e<;>simp at e
   · rcases this _ h with ⟨p,e⟩|⟨k,o,e,_⟩|⟨f,c,e,_⟩|e<;>simp at e
 · exfalso
   rcases (rJ st ks).sl t av h with ⟨p,e⟩|⟨k,o,e,_⟩|⟨f,c,e,_⟩|e<;>subst e<;>simp [ot] at hj
end
end Go.Proofs.YtibbgjafjhcemaaGreatDoor.Cul
namespace Go.Proofs.YtibbgjafjhcemaaGreatDoor.Cul
open Go Go.RowKit
section
variable {aT:ef} {P:Program} {base:Nat} {w w' w0:World} {Pr aD aL:aC} {bk aN:Key→Nat} {st cP s2:St} {a a':Act} {N:Nat} {ks:List Nat}
theorem zT {α:Type} (f:Nat→Bool) (l:List (Nat×α)) (t:Nat):look (l.filter (fun x=>f x.1)) t=if f t then look l t else none:=jm f l t
theorem yN (I:Inv base w Pr bk cP a N) (S:K7 ks cP) (I2:Inv base w' aD aN s2 a' N) (c:Carry w Pr w' aD) (hk:∀k,ks.contains k=false→aN (.bx k)=bk (.bx k)) (ko:KO w w'):
  Inv base w' aD aN (cP.after s2) a N:=by
 have de:∀k,look (cP.after s2).bx k=if (look cP.bx k).isSome then look s2.bx k else none:=fun k=>zT (fun k=>(look cP.bx k).isSome) s2.bx k
 have dJ:∀p,aG (cP.after s2).gr p=if p.sW (fun k=>(look cP.bx k).isSome) then aG s2.gr p else none:=fun p=>dY (Pl.sW fun k=>(look cP.bx k).isSome) s2.gr p
 have bS:∀x,live (cP.after s2) x→live s2 x:=by
  intro x hx
  cases x with
  |bx k=>
   obtain ⟨cs,h⟩:=hx
   rw [de] at h
   split at h
   · exact ⟨cs,h⟩
   · simp at h
  |sx t=>
   exfalso
   rcases hx with ⟨sz,n,cs,h⟩|⟨z,h⟩
   · rcases S.sl t _ h with ⟨p,e⟩|⟨k,o,e,_⟩|⟨f,c,e,_⟩|e<;>simp at e
   · rw [dJ] at h;simp [Pl.sW] at h
  |cx k o=>
   obtain ⟨z,h⟩:=hx
   rw [dJ] at h
   split at h
   · exact ⟨z,h⟩
   · simp at h
 constructor
 · exact I.size
 · exact ⟨fun d hd=>(I.defers.1 d hd).ko ko,I.defers.2⟩
 · exact I2.hb
 · exact I2.bH
 · intro t av ht
   obtain ⟨v,hv,hr⟩:=I.slots t av ht
   refine ⟨v,hv, ?_⟩
   rcases S.sl t av ht with ⟨p,rfl⟩|⟨k,off,rfl,hkk⟩|⟨f,caps,rfl,hkk⟩|rfl
   · exact Rp.carry c hr
   · simp only [dD] at hr ⊢;rw [hk k hkk];exact hr
   · obtain ⟨vs,h1,h2,h3⟩:=hr
     refine ⟨vs,h1,h2,fun i cp u hc hu=> ?_⟩
     have:=h3 i cp u hc hu
     cases cp with
     |pv p=>exact Rp.carry c this
     |bp k off=>
      have EL:ks.contains k=false:=by
       rw [List.any_eq_false] at hkk
       have:=hkk _ (List.mem_of_getElem? hc)
       simpa [ym] using this
      simp only [gJ] at this ⊢;rw [hk k EL];exact this
   · trivial
 · exact fun x hx=>I2.own x (bS x hx)
 · exact fun x y hx hy=>I2.inj x y (bS x hx) (bS y hy)
 · intro k cs h
   rw [de] at h
   split at h
   · exact I2.boxes k cs h
   · simp at h
 · intro t z h
   rw [dJ] at h;simp [Pl.sW] at h
 · intro k i z h
   rw [dJ] at h
   split at h
   · rename_i hc
     obtain ⟨o,n,cap,cs,dc,h1,h2,h3,h4⟩:=I2.ig k i z h
     refine ⟨o,n,cap,cs,dc, ?_,h2,h3,h4⟩
     rw [de,if_pos (by simpa [Pl.sW] using hc)];exact h1
   · simp at h
 · intro t q h
   simp [St.after,look] at h
def kJ (ps:List Nat) (vs:List Value) (tmps:Array Value):Array Value:=(ps.zip vs).foldl (fun t x=>t.setIfInBounds x.1 x.2) tmps
theorem vl:∀(ps:List Nat) (xs:List PV) (vs:List Value) (st:St) (a:Act) (bk:Key→Nat),Inv base w Pr bk st a N→aM w Pr xs vs→(∀p∈ps,p<N)→
  ∃aN,Inv base w Pr aN (mw ps xs st) { a with tmps:=kJ ps vs a.tmps} N∧∀k,aN (.bx k)=bk (.bx k)
 |[],xs,vs,st,a,bk,I,hr,hp=>⟨bk,by simpa [mw,kJ] using I,fun _=>rfl⟩
 |p::ps,_,_,st,a,bk,I, .nil,hp=>⟨bk,by simpa [mw,kJ] using I,fun _=>rfl⟩
 |p::ps,x::xs,v::vs,st,a,bk,I, .cons h hs,hp=>by
  have hm:dn base w Pr bk st a { v:= .pv x} v:=bu h
  obtain ⟨yS,I1,fk⟩:=I.iq (hp p (by simp)) hm
  obtain ⟨gh,I2,cc⟩:=vl ps xs vs _ _ yS I1 hs (fun q hq=>hp q (List.mem_cons_of_mem _ hq))
  refine ⟨gh, ?_,fun k=>(cc k).trans (fk k)⟩
  have e:kJ (p::ps) (v::vs) a.tmps=kJ ps vs (a.put (some p) v).tmps:=rfl
  rw [e]
  exact I2
end
end Go.Proofs.YtibbgjafjhcemaaGreatDoor.Cul
namespace Go.Proofs.YtibbgjafjhcemaaGreatDoor.Cul
open Go Go.RowKit
def toExit:Xt→Exit
 | .normal=> .normal
 | .exit id=> .exit id
 | .ret=> .ret
def mC (P:Program) (it:Nat→List PV→Option (Nat×List (List PV))):Prop:=
 ∀f caps k xs,it f caps=some (k,xs)→ov P f∧∀(vs:List Value) (w:World) (Pr:aC),(∀b o,Pr b o→b<w.heap.size)→aM w Pr caps vs→
  ∃enc:Nat→List Value,(∀i x,xs[i]? =some x→(enc i).length=k∧∀W aD,aM W aD x (enc i))∧∀n,1≤n→CA P n f vs.toArray (fun i=>(enc i).toArray) xs.length Pr w
def MH:Xt→Code
 | .normal=> .skip
 | .exit id=> .exit id
 | .ret=> .ret
section
variable {aT:ef} {P:Program} {base:Nat} {w w' w0:World} {Pr aD aL:aC} {bk aN:Key→Nat} {st cP s2:St} {a a':Act} {N m:Nat} {ks:List Nat}
theorem IJ (ps:Array Nat) (vs:List Value) (tmps:Array Value):(ps.zip vs.toArray).foldl (fun t (p,v)=>t.setIfInBounds p v) tmps=kJ ps.toList vs tmps:=by
 unfold kJ
 rw [←Array.foldl_toList,Array.toList_zip]
def Part (P:Program) (base N:Nat) (m:Nat) (ks:List Nat) (c:Code) (f:St→Option (Xt×St)):Prop:=
 ∀(l:Nat) (w0:World) (aL:aC) (aT:ef) (st:St) (a:Act) (w:World) (x:Xt) (s:St),(∀d,ks.contains d=true→aT.k d=none)→Good base w0 aL N aT st a w→f st=some (x,s)→
  ∀Q:Exit→Act→World→Prop,(∀a' w',Good base w0 aL N aT s a' w'→Q (toExit x) a' w')→c.wpIn (Fence.wide.inRound l) m P Q a w
def eV (base:Nat) (w0:World) (aL:aC) (N:Nat) (aT:ef) (Pi:aC) (st:St) (a:Act) (w:World):Prop:=
 ∃Pr bk,Inv base w Pr bk st a N∧Below base w0 w∧(∀b o,b<base→Pr b o→aL b o)∧KO w0 w∧(∀k b,aT.k k=some b→bk (.bx k)=b)∧(∀b o v,aL b o→w0.cell? ⟨b,o,none⟩=some v→Pr b o∧w.cell? ⟨b,o,none⟩=some v)∧(∀ds,aT.ds=some ds→a.defers=ds)∧
  ∀b o,Pi b o→Pr b o∧∃v,w.cell? ⟨b,o,none⟩=some v
theorem eV.good {Pi:aC} (h:eV base w0 aL N aT Pi st a w):Good base w0 aL N aT st a w:=by
 obtain ⟨Pr,bk,I,h1,h2,h3,h4,h5,h6,_⟩:=h
 exact ⟨Pr,bk,I,h1,h2,h3,h4,h5,h6⟩
theorem eV.hO {Pi:aC} {ds:List Deferred} (hds:aT.ds=some ds) (hm:∀d∈ds,Mark base w0 d) (qz:base≤w0.heap.size) (G:eV base w0 aL N aT Pi st a w) {l:Nat} {o o':Obj} (hl:w0.heap.size≤l) (ho:w.heap[l]? =some o) (hc:o.isCells=false):eV base w0 aL N aT Pi st a (w.putObj l o'):=by
 obtain ⟨Pr,bk,I,hb,hp,fW,eW,hkc,hdf,LI⟩:=G
 have hg:w.grownBy (w.putObj l o') (some l):=grownBy_putObj' w l _
 have I2:=I.hO hg (r:=l) (fun r' e=>by cases e;rfl) ho hc (fun d hd e=>by
  rw [hdf ds hds] at hd
  obtain ⟨D,e1,e2,_⟩:=hm d hd
  rw [e1] at e
  have:D=l:=by simpa using e
  have:=(Array.getElem?_eq_some_iff.1 e2).1
  omega)
 have hne:∀b i v,w.cell? ⟨b,i,none⟩=some v→b≠l∧(w.putObj l o').cell? ⟨b,i,none⟩=some v:=fun b i v h4=>by
  have EC:b≠l:=fun e=>by subst e;rw [k7 ho hc] at h4;simp at h4
  exact ⟨EC,(World.cell?_of_block (w:=w) (a:=⟨b,i,none⟩) (World.putObj_heap_other EC)).trans h4⟩
 refine ⟨_,bk,I2,hb.grown hg (Nat.le_trans qz hb.size) (fun k e=>by cases e;exact Nat.le_trans qz hl),fun b o hlt h=>hp b o hlt h.1,fW.grown hg (fun r e=>by cases e;exact hl),eW,fun b i v h1 h2=> ?_,hdf,fun b i h=> ?_⟩
 · obtain ⟨h3,h4⟩:=hkc b i v h1 h2
   obtain ⟨h5,h6⟩:=hne b i v h4
   exact ⟨⟨h3,h5⟩,h6⟩
 · obtain ⟨h3,v,h4⟩:=LI b i h
   obtain ⟨h5,h6⟩:=hne b i v h4
   exact ⟨⟨h3,h5⟩,v,h6⟩
theorem rW {w:World} {b o:Nat} {v:Value} (h:w.cell? ⟨b,o,none⟩=some v):b<w.heap.size:=by
 unfold World.cell? at h
 cases e:w.heap[b]? with
 |none=>simp [e] at h
 |some ob=>exact (Array.getElem?_eq_some_iff.1 e).1
theorem eV.grow {Pi:aC} (qz:base≤w0.heap.size) (G:eV base w0 aL N aT Pi st a w) (hg:w.grownBy w' none):eV base w0 aL N aT (Pi.plus w w') st a w':=by
 obtain ⟨Pr,bk,I,hb,hp,fW,eW,hkc,hdf,LI⟩:=G
 have iE:Below w.heap.size w w':=(Below.refl _ w).grown hg (Nat.le_refl _) (by simp)
 obtain ⟨aD,fj⟩:∃aD:aC,∀b o,aD b o↔(Pr b o∨(w.heap.size≤b∧b<w'.heap.size)):=⟨fun b o=>_,fun _ _=>Iff.rfl⟩
 have hf:Fw w Pr w' aD:=⟨iE,fun b o h=>(fj b o).2 (.inl h),fun b o hb h=>((fj b o).1 h).resolve_right (fun h=>by omega),fun b o h=>((fj b o).1 h).elim (fun h=>Nat.lt_of_lt_of_le (I.bH b o h) hg.size) (fun h=>h.2)⟩
 have hcell:∀b o v,w.cell? ⟨b,o,none⟩=some v→w'.cell? ⟨b,o,none⟩=some v:=fun b o v h=>(iE.cell (p:=⟨b,o,none⟩) (rW h)).trans h
 refine ⟨aD,bk,I.fw hf,hb.grown hg (Nat.le_trans qz hb.size) (by simp),fun b o hlt h=> ?_,fW.grown hg (by simp),eW,fun b o v h1 h2=> ?_,hdf,fun b o h=> ?_⟩
 · rcases (fj b o).1 h with h|h
   · exact hp b o hlt h
   · have:=hb.size;omega
 · obtain ⟨h3,h4⟩:=hkc b o v h1 h2
   exact ⟨(fj b o).2 (.inl h3),hcell b o v h4⟩
 · rcases h with h|⟨h1,v,h2⟩
   · obtain ⟨h3,v,h4⟩:=LI b o h
     exact ⟨(fj b o).2 (.inl h3),v,hcell b o v h4⟩
   · exact ⟨(fj b o).2 (.inr ⟨h1,rW h2⟩),v,h2⟩
theorem eV.less {Pi ON:aC} (h:eV base w0 aL N aT Pi st a w) (k:∀b o,ON b o→Pi b o):eV base w0 aL N aT ON st a w:=by
 obtain ⟨Pr,bk,I,h1,h2,h3,h4,h5,h6,h7⟩:=h
 exact ⟨Pr,bk,I,h1,h2,h3,h4,h5,h6,fun b o h=>h7 b o (k b o h)⟩
theorem AB {it:Nat→List PV→Option (Nat×List (List PV))} (hI:mC P it) (h1:2≤m) {fV body:Code} {fa fb:St→Option (Xt×St)} (hA:Part P base N (m - 1 - 1) ks fV fa) (hB:Part P base N (m - 1 - 1) ks body fb)
  (G:Good base w0 aL N aT st a w) (hz:aT.ds=none) (eW:∀d,ks.contains d=true→aT.k d=none) {g:Operand} {f:Nat} {caps:List PV} {ps:Array Nat} {xs:List (List PV)} (hps:∀p∈ps.toList,p<N) (hg:st.pv g=some (.fn f caps)) (hit:it f caps=some (ps.size,xs))
  {x:Xt} {st':St} (h:fF fa fb (st.hH ks) ps.toList xs (st.hH ks)=some (x,st')) {Q:Exit→Act→World→Prop} (hQ:∀a' w',Good base w0 aL N aT st' a' w'→Q (toExit x) a' w'):
  (Code.rangeFunc g ps fV body).wpIn Fence.wide m P Q a w:=by
 obtain ⟨Pr,bk,I,hb,hp,fW,C7,hkc,_⟩:=G
 have Is:=I.hH ks
 have S:=rJ st ks
 generalize st.hH ks=cP at h Is S
 obtain ⟨hbody,Qw⟩:=hI f caps ps.size xs hit
 have hfn:=iw I hg
 obtain ⟨vs,sS,hrc⟩:∃vs:List Value,a.eval g= .func (.func f) #[] vs.toArray∧aM w Pr caps vs:=by
  cases hv:a.eval g<;>rw [hv] at hfn<;>cases hfn
  exact ⟨_,rfl,by assumption⟩
 obtain ⟨enc,LY,L3⟩:=Qw vs w Pr I.bH hrc
 have Ui:∀args w,(callFunc f args).run P w= .ok (.enter f args) w:=by
  obtain ⟨fn,c,e1,e2,e3⟩:=hbody
  intro args w
  simp [callFunc,program,Sem.run,e1,e2,show ¬fn.name= "runtime.NumGoroutine" from by simpa using e3]
 obtain ⟨tT,hL⟩:∃tT:ef,tT=⟨fun j=>if ks.contains j then none else some (bk (.bx j)),some a.defers⟩:=⟨_,rfl⟩
 obtain ⟨gq,hR⟩:∃gq:ef,gq=⟨fun j=>if ks.contains j then none else some (bk (.bx j)),some []⟩:=⟨_,rfl⟩
 have O3:∀d,ks.contains d=true→gq.k d=none:=fun d hd=>by rw [hR];show (if ks.contains d=true then none else some _)=none;rw [if_pos hd]
 have Dg:∀(gh:Key→Nat) (dd:Option (List Deferred)),(∀k,ks.contains k=false→gh (.bx k)=bk (.bx k))→∀k b,(⟨fun j=>if ks.contains j then none else some (bk (.bx j)),dd⟩:ef).k k=some b→gh (.bx k)=b:=by
  intro gh dd h2 k b e
  simp only at e
  split at e
  · simp at e
  · rename_i hc
    rw [h2 k (by simpa using hc)];exact Option.some.inj e
 have yB:∀(gh:Key→Nat) (dd:Option (List Deferred)),(∀k b,(⟨fun j=>if ks.contains j then none else some (bk (.bx j)),dd⟩:ef).k k=some b→gh (.bx k)=b)→∀k,ks.contains k=false→gh (.bx k)=bk (.bx k):=by
  intro gh dd h2 k hc
  exact h2 k _ (by show (if ks.contains k=true then none else some _)=some _;rw [if_neg (by rw [hc];simp)])
 have hM:∀d∈a.defers,Mark base w d:=I.defers.1
 have Qd:∀A B:World,(∃cur,fF fa fb cP ps.toList (xs.drop 0) cur=some (x,st')∧eV base w Pr N tT (Pr.here w) (cP.after cur) a A)→A.grownBy B none→∃cur,fF fa fb cP ps.toList (xs.drop 0) cur=some (x,st')∧eV base w Pr N tT (Pr.here w) (cP.after cur) a B:=
  fun A B ⟨cur,e,G2⟩ oL=>⟨cur,e,(G2.grow I.hb oL).less fun b o h=> .inl h⟩
 refine rQ (N:=xs.length) (enc:=fun i=>(enc i).toArray) (by omega) sS Ui (L3 (m - 1) (by omega))
  (fun k hk=>by
   obtain ⟨y,hy⟩:∃y,xs[k]? =some y:=⟨_,List.getElem?_eq_getElem hk⟩
   simpa using (LY k y hy).1)
  (fun k Pi W=>∃cur,fF fa fb cP ps.toList (xs.drop k) cur=some (x,st')∧eV base w Pr N tT Pi (cP.after cur) a W)
  (fun c W=>c=MH x∧x≠ .normal∧Good base w Pr N tT st' a W)
  (fun k Pi W l o o' ⟨cur,e,G2⟩ hl ho hc _=>⟨cur,e,G2.hO (by rw [hL]) hM I.hb hl ho hc⟩)
  (fun c W l o o' ⟨e1,e2,G2⟩ hl ho hc _=>⟨e1,e2,G2.own (by rw [hL]) hM I.hb (grownBy_putObj' W l o') (fun r e=>by cases e;exact ⟨hl,o,ho,hc⟩)⟩)
  (fun k Pi A B ⟨cur,e,G2⟩ oL=>⟨cur,e,G2.grow I.hb oL⟩)
  Qd
  (fun c A B ⟨e1,e2,G2⟩ oL=>⟨e1,e2,G2.own (by rw [hL]) hM I.hb oL (by simp)⟩)
  ⟨cP,by simpa using h, ?_⟩
  (fun k Pi a2 W=>∃s e s2,fb s=some (e,s2)∧((e= .normal∧fF fa fb cP ps.toList (xs.drop (k+1)) s2=some (x,st'))∨(e≠ .normal∧x=e∧st'=cP.after s2))∧eV base w Pr N gq Pi s a2 W)
  (fun k Pi a2 W l o o' ⟨s,e,s2,h3,h4,G2⟩ hl ho hc _=>⟨s,e,s2,h3,h4,G2.hO (by rw [hR]) (by simp) I.hb hl ho hc⟩)
  ?_ ?_ ?_ ?_
 · exact ⟨Pr,bk,yN Is S Is (fun b o v h1 h2=>⟨h1,h2⟩) (fun _ _=>rfl) (KO.refl _),Below.refl _ _,fun _ _ _ h=>h,KO.refl _,by rw [hL];exact Dg bk _ (fun _ _=>rfl),fun _ _ _ h1 h2=>⟨h1,h2⟩,fun ds e=>by rw [hL] at e;simpa using e,fun b o h=>h⟩
 ·
  rintro l k Pi W K ⟨cur,fl,sJ,sN,IW,zm,uS,q9,kP,tO,I5,zk⟩ hk hK
  obtain ⟨y,hy⟩:∃y,xs[k]? =some y:=⟨_,List.getElem?_eq_getElem hk⟩
  have Od:xs.drop k=y::xs.drop (k+1):=by
   rw [List.drop_eq_getElem_cons hk]
   congr 1
   rw [List.getElem?_eq_getElem hk] at hy
   exact Option.some.inj hy
  rw [Od] at fl
  simp only [fF,Option.bind_eq_some_iff] at fl
  obtain ⟨⟨xa,s⟩,ha,fl⟩:=fl
  cases xa with
  |exit id=>simp at fl
  |ret=>simp at fl
  |normal=>
   simp only [Option.bind_eq_some_iff] at fl
   obtain ⟨⟨e,s2⟩,zy,fl⟩:=fl
   have I0:=IW.marks (ds:=[]) (by simp) List.nodup_nil
   obtain ⟨gh,I2,cc⟩:=vl ps.toList y (enc k) _ _ sN I0 ((LY k y hy).2 W sJ) hps
   rw [IJ]
   have hun:=yB sN _ (by rw [hL] at kP;exact kP)
   refine hA l W sJ gq _ _ W .normal s O3 ⟨sJ,gh,I2,Below.refl _ _,fun _ _ _ h=>h,KO.refl _,by rw [hR];exact Dg gh _ (fun j hj=>(cc j).trans (hun j hj)),fun _ _ _ h1 h2=>⟨h1,h2⟩,fun ds e=>by rw [hR] at e;simpa using e⟩ ha _ fun a2 W2 G2=> ?_
   obtain ⟨kV,D2,I3,nI,Mj,q8,yt,tN,O7⟩:=G2
   refine hK a2 W2 (q8.from _) (fun b o v h1 h2=>(tN b o v (zk b o h1).1 h2).2) ⟨s,e,s2,zy, ?_,kV,D2,I3,zm.trans nI,fun b o hlt h=>uS b o hlt (Mj b o hlt h),q9.trans q8,yt,fun b o v h1 h2=> ?_,O7,fun b o h1=> ?_⟩
   · cases e with
     |normal=>exact .inl ⟨rfl,fl⟩
     |exit id=>simp only [Option.some.injEq,Prod.mk.injEq] at fl;exact .inr ⟨by simp,fl.1.symm,fl.2.symm⟩
     |ret=>simp only [Option.some.injEq,Prod.mk.injEq] at fl;exact .inr ⟨by simp,fl.1.symm,fl.2.symm⟩
   · obtain ⟨h3,h4⟩:=tO b o v h1 h2
     exact tN b o v h3 h4
   · obtain ⟨h3,v,h4⟩:=zk b o h1
     obtain ⟨h5,h6⟩:=tN b o v h3 h4
     exact ⟨h5,v,h6⟩
 ·
  rintro l k Pi a2 W ⟨s,e,s2,zy,C2,sJ,sN,IW,zm,uS,q9,kP,tO,I5,zk⟩ hk
  refine hB l W sJ gq s a2 W e s2 O3 ⟨sJ,sN,IW,Below.refl _ _,fun _ _ _ h=>h,KO.refl _,kP,fun _ _ _ h1 h2=>⟨h1,h2⟩,I5⟩ zy _ fun a3 W2 G2=> ?_
  obtain ⟨kV,D2,I3,nI,Mj,q8,yt,tN,O7⟩:=G2
  have wE:Carry w Pr W2 kV:=fun b o v h1 h2=>by
   obtain ⟨h3,h4⟩:=tO b o v h1 h2
   exact tN b o v h3 h4
  have hun:=yB D2 _ (by rw [hR] at yt;exact yt)
  have Ia:=yN Is S I3 wE hun (q9.trans q8)
  have Ga:eV base w Pr N tT Pi (cP.after s2) a W2:=⟨kV,D2,Ia,zm.trans nI,fun b o hlt h=>uS b o hlt (Mj b o hlt h),q9.trans q8,by rw [hL];exact Dg D2 _ hun,wE,fun ds e=>by rw [hL] at e;simpa using e,fun b o h1=>by
   obtain ⟨h3,v,h4⟩:=zk b o h1
   obtain ⟨h5,h6⟩:=tN b o v h3 h4
   exact ⟨h5,v,h6⟩⟩
  have hkp:ia Pi W W2:=fun b o v h1 h2=>(tN b o v (zk b o h1).1 h2).2
  cases e with
  |normal=>
   rcases C2 with ⟨_,hc⟩|⟨hne,_⟩
   · exact ⟨q8.from _,hkp,s2,hc,Ga⟩
   · exact absurd rfl hne
  |exit id=>
   rcases C2 with ⟨hne,_⟩|⟨_,hx,hs⟩
   · simp at hne
   · exact ⟨q8.from _,by rw [hx];rfl,by rw [hx];simp,by rw [hs];exact Ga.good⟩
  |ret=>
   rcases C2 with ⟨hne,_⟩|⟨_,hx,hs⟩
   · simp at hne
   · exact ⟨q8.from _,by rw [hx];rfl,by rw [hx];simp,by rw [hs];exact Ga.good⟩
 ·
  rintro D Pi W hD ⟨cur,fl,sJ,sN,IW,zm,uS,q9,kP,tO,I5,_⟩ LC
  have he:xs.drop xs.length=[]:=by simp
  rw [he] at fl
  simp only [fF,Option.some.injEq,Prod.mk.injEq] at fl
  obtain ⟨rfl,rfl⟩:=fl
  have hun:=yB sN _ (by rw [hL] at kP;exact kP)
  refine hQ _ _ ⟨sJ,sN,IW.marks (fun d hd=> ?_) ?_,hb.trans zm,fun b o hlt h=>hp b o hlt (uS b o hlt h),fW.trans q9,fun k b e=> ?_,fun b o v h1 h2=> ?_,fun ds e=>by rw [hz] at e;simp at e⟩
  · rcases List.mem_cons.1 hd with rfl|hd
    · exact ⟨D,rfl,LC,Nat.le_trans I.hb hD⟩
    · exact IW.defers.1 d hd
  · refine List.nodup_cons.2 ⟨fun hd=> ?_,IW.defers.2⟩
    obtain ⟨D',e1,e2,_⟩:=hM _ hd
    have e3:D=D':=by simpa using e1
    have:=(Array.getElem?_eq_some_iff.1 e2).1
    omega
  · have hc:ks.contains k=false:=by
      cases hc:ks.contains k with
      |false=>rfl
      |true=>rw [eW k hc] at e;simp at e
    exact (hun k hc).trans (C7 k b e)
  · obtain ⟨h3,h4⟩:=hkc b o v h1 h2
    exact tO b o v h3 h4
 ·
  rintro D c W hD ⟨rfl,hx,sJ,sN,IW,zm,uS,q9,kP,tO,I5⟩ LC
  have hun:=yB sN _ (by rw [hL] at kP;exact kP)
  have G2:Good base w0 aL N aT st' { a with defers:={ target:= .collected D,args:= #[]}::a.defers} W:=by
   refine ⟨sJ,sN,IW.marks (fun d hd=> ?_) ?_,hb.trans zm,fun b o hlt h=>hp b o hlt (uS b o hlt h),fW.trans q9,fun k b e=> ?_,fun b o v h1 h2=> ?_,fun ds e=>by rw [hz] at e;simp at e⟩
   · rcases List.mem_cons.1 hd with rfl|hd
     · exact ⟨D,rfl,LC,Nat.le_trans I.hb hD⟩
     · exact IW.defers.1 d hd
   · refine List.nodup_cons.2 ⟨fun hd=> ?_,IW.defers.2⟩
     obtain ⟨D',e1,e2,_⟩:=hM _ hd
     have e3:D=D':=by simpa using e1
     have:=(Array.getElem?_eq_some_iff.1 e2).1
     omega
   · have hc:ks.contains k=false:=by
       cases hc:ks.contains k with
       |false=>rfl
       |true=>rw [eW k hc] at e;simp at e
     exact (hun k hc).trans (C7 k b e)
   · obtain ⟨h3,h4⟩:=hkc b o v h1 h2
     exact tO b o v h3 h4
  have hq:=hQ _ _ G2
  cases x with
  |normal=>exact absurd rfl hx
  |exit id=>exact wpIn_exit hq
  |ret=>exact wpIn_ret hq
end
end Go.Proofs.YtibbgjafjhcemaaGreatDoor.Cul
namespace Go.Proofs.YtibbgjafjhcemaaGreatDoor.Cul
open Go Go.RowKit
section
variable {P:Program} {base:Nat} {w w0:World} {Pr aL:aC} {bk:Key→Nat} {st st':St} {a:Act} {N:Nat} {ops:Array Oper} {call:Cl} {aT:ef} {it:Nat→List PV→Option (Nat×List (List PV))}
theorem Good.val (G:Good base w0 aL N aT st a w) {x:Operand} {v:Value} (h:st.val x=some v):a.eval x=v:=by
 obtain ⟨Pr,bk,I,_⟩:=G
 exact fB I h
theorem xS {F:Fence} {m:Nat} {c:Code} {f:St→Option (Xt×St)} {x:Xt} {Q:Exit→Act→World→Prop}
  (hf:∀st a w y s,Good base w0 aL N aT st a w→f st=some (y,s)→∀Q:Exit→Act→World→Prop,(∀a' w',Good base w0 aL N aT s a' w'→Q (toExit y) a' w')→c.wpIn F m P Q a w)
  (hQ:∀a' w',Good base w0 aL N aT st' a' w'→Q (toExit x) a' w'):
  ∀(k:Nat) (st:St) (a:Act) (w:World),Good base w0 aL N aT st a w→bh f k st=some (x,st')→Code.roundsIn F m P c Q k a w
 |0,st,a,w,G,h=>by simp [bh] at h
 |k+1,st,a,w,G,h=>by
  simp only [bh,Option.bind_eq_some_iff] at h
  obtain ⟨⟨y,s⟩,h1,h2⟩:=h
  rw [roundsIn_succ]
  refine hf st a w y s G h1 _ fun a' w' G'=> ?_
  cases y with
  |normal=>exact xS hf hQ k s a' w' G' h2
  |exit id=>simp only [Option.some.injEq,Prod.mk.injEq] at h2;obtain ⟨rfl,rfl⟩:=h2;exact hQ a' w' G'
  |ret=>simp only [Option.some.injEq,Prod.mk.injEq] at h2;obtain ⟨rfl,rfl⟩:=h2;exact hQ a' w' G'
theorem fY (hC:aH P call) (hI:mC P it) (hm:P.follows .mixedOrders=true) (note:Nat→eL) (k:Nat):∀(c:Code),bN N c=true→∀(F:Fence) (E:iy F) (m:Nat) (w0:World) (aL:aC) (aT:ef),(flat c=true∨(F=Fence.wide∧aT.ds=none∧2≤m))→(∀d∈dstsOf c,aT.k d=none)→∀(st:St) (a:Act) (w:World) (x:Xt) (st':St),Good base w0 aL N aT st a w→
  cV P call it (fun g=>bh g k) note c st=some (x,st')→∀Q:Exit→Act→World→Prop,(∀a' w',Good base w0 aL N aT st' a' w'→Q (toExit x) a' w')→c.wpIn F m P Q a w
 | .skip,_,F,E,m,w0,aL,aT,_,_,st,a,w,x,st',G,h,Q,hQ=>by
   simp only [cV,Option.some.injEq,Prod.mk.injEq] at h
   obtain ⟨rfl,rfl⟩:=h
   exact wpIn_skip (hQ a w G)
 | .region id ops dr,hok,F,E,m,w0,aL,aT,_,eW,st,a,w,x,st',G,h,Q,hQ=>by
   simp only [cV] at h
   split at h
   · rename_i hp
     simp only [Bool.and_eq_true] at hp
     obtain ⟨rfl,_⟩:=hp
     simp only [Option.map_eq_some_iff,Option.bind_eq_some_iff,Prod.mk.injEq] at h
     obtain ⟨s,⟨ls,hl,ho⟩,rfl,rfl⟩:=h
     exact KB E m hC hm hok (fun o ho d hd=>eW d (List.mem_filterMap.2 ⟨o,ho,hd⟩)) (Good.vK _ G) hl fun s' hs' a' w' G'=>hQ a' w' (by rw [←Dq ho s' hs'];exact G'.bG _)
   simp only [Option.map_eq_some_iff,Prod.mk.injEq] at h
   obtain ⟨s,hs,rfl,rfl⟩:=h
   exact xQ E m hC hm hok (fun o ho d hd=>eW d (List.mem_filterMap.2 ⟨o,ho,hd⟩)) (Good.vK _ G) hs fun a' w' G'=>hQ a' w' (G'.bG _)
 | .seq p q,hok,F,E,m,w0,aL,aT,hF,eW,st,a,w,x,st',G,h,Q,hQ=>by
   simp only [bN,Bool.and_eq_true] at hok
   simp only [flat,Bool.and_eq_true] at hF
   simp only [cV,Option.bind_eq_some_iff] at h
   obtain ⟨⟨y,s⟩,h1,h2⟩:=h
   refine wpIn_seq (fY hC hI hm note k p hok.1 F E m w0 aL aT (hF.imp And.left id) (fun d hd=>eW d (List.mem_append_left _ hd)) st a w y s G h1 _ fun a' w' G'=> ?_)
   cases y with
   |normal=>exact fY hC hI hm note k q hok.2 F E m w0 aL aT (hF.imp And.right id) (fun d hd=>eW d (List.mem_append_right _ hd)) s a' w' x st' G' h2 Q hQ
   |exit id=>simp only [Option.some.injEq,Prod.mk.injEq] at h2;obtain ⟨rfl,rfl⟩:=h2;exact hQ a' w' G'
   |ret=>simp only [Option.some.injEq,Prod.mk.injEq] at h2;obtain ⟨rfl,rfl⟩:=h2;exact hQ a' w' G'
 | .cond c t e,hok,F,E,m,w0,aL,aT,hF,eW,st,a,w,x,st',G,h,Q,hQ=>by
   simp only [bN,Bool.and_eq_true] at hok
   simp only [flat,Bool.and_eq_true] at hF
   simp only [cV,Option.bind_eq_some_iff] at h
   obtain ⟨v,hv,h⟩:=h
   have EF:=G.val hv
   split at h
   · exact wpIn_cond_true EF (fY hC hI hm note k t hok.1 F E m w0 aL aT (hF.imp And.left id) (fun d hd=>eW d (List.mem_append_left _ hd)) st a w x st' G h Q hQ)
   · exact wpIn_cond_false EF (fY hC hI hm note k e hok.2 F E m w0 aL aT (hF.imp And.right id) (fun d hd=>eW d (List.mem_append_right _ hd)) st a w x st' G h Q hQ)
   · simp at h
 | .block id c,hok,F,E,m,w0,aL,aT,hF,eW,st,a,w,x,st',G,h,Q,hQ=>by
   simp only [bN] at hok
   simp only [flat] at hF
   simp only [cV,Option.map_eq_some_iff] at h
   obtain ⟨⟨y,s⟩,h1,h2⟩:=h
   refine wpIn_block (fY hC hI hm note k c hok F E m w0 aL aT hF eW st a w y s G h1 _ fun a' w' G'=> ?_)
   cases y with
   |normal=>simp only [Prod.mk.injEq] at h2;obtain ⟨rfl,rfl⟩:=h2;exact hQ a' w' G'
   |exit j=>
    simp only [toExit,Exit.inBlock]
    simp only at h2
    split at h2
    · rename_i hj;rw [if_pos hj];simp only [Prod.mk.injEq] at h2;obtain ⟨rfl,rfl⟩:=h2;exact hQ a' w' G'
    · rename_i hj;rw [if_neg hj];simp only [Prod.mk.injEq] at h2;obtain ⟨rfl,rfl⟩:=h2;exact hQ a' w' G'
   |ret=>simp only [Prod.mk.injEq] at h2;obtain ⟨rfl,rfl⟩:=h2;exact hQ a' w' G'
 | .loop c,hok,F,E,m,w0,aL,aT,hF,eW,st,a,w,x,st',G,h,Q,hQ=>by
   simp only [bN] at hok
   simp only [flat] at hF
   simp only [cV] at h
   exact wpIn_loop_rounds k (xS (f:=cV P call it (fun g=>bh g k) note c) (fun st a w y s G h Q hQ=>fY hC hI hm note k c hok F E m w0 aL aT hF eW st a w y s G h Q hQ) hQ k st a w G h)
 | .rangeFunc g ps fV body,hok,F,E,m,w0,aL,aT,hF,eW,st,a,w,x,st',G,h,Q,hQ=>by
   simp only [bN,Bool.and_eq_true] at hok
   obtain ⟨⟨⟨⟨LZ,zy⟩,Me⟩,Mf⟩,hps⟩:=hok
   rcases hF with hF|⟨rfl,hz,h1⟩
   · simp [flat] at hF
   · simp only [cV,Option.bind_eq_some_iff] at h
     obtain ⟨p,hp,h⟩:=h
     split at h
     · rename_i f caps
       simp only [Option.bind_eq_some_iff] at h
       obtain ⟨⟨n,xs⟩,hit,h⟩:=h
       split at h
       · rename_i hn
         simp only at hn;subst hn
         have hA:Part P base N (m - 1 - 1) (ps.toList++(dstsOf fV++dstsOf body)) fV (cV P call it (fun g=>bh g k) note fV):=fun l w0 aL aT st a w x s hk G h Q hQ=>
          fY hC hI hm note k fV Me _ (uA l) (m - 1 - 1) w0 aL aT (.inl LZ) (fun d hd=>hk d (by rw [List.contains_eq_mem];simp [hd])) st a w x s G h Q hQ
         have hB:Part P base N (m - 1 - 1) (ps.toList++(dstsOf fV++dstsOf body)) body (cV P call it (fun g=>bh g k) note body):=fun l w0 aL aT st a w x s hk G h Q hQ=>
          fY hC hI hm note k body Mf _ (uA l) (m - 1 - 1) w0 aL aT (.inl zy) (fun d hd=>hk d (by rw [List.contains_eq_mem];simp [hd])) st a w x s G h Q hQ
         exact AB hI h1 hA hB G hz (fun d hd=>eW d (by rw [List.contains_eq_mem] at hd;simpa [dstsOf] using hd)) (fun p hp=>by simpa using List.all_eq_true.1 hps p hp) hp hit h hQ
       · simp at h
     · simp at h
 | .exit id,_,F,E,m,w0,aL,aT,_,_,st,a,w,x,st',G,h,Q,hQ=>by
   simp only [cV,Option.some.injEq,Prod.mk.injEq] at h
   obtain ⟨rfl,rfl⟩:=h
   exact wpIn_exit (hQ a w G)
 | .ret,_,F,E,m,w0,aL,aT,_,_,st,a,w,x,st',G,h,Q,hQ=>by
   simp only [cV,Option.some.injEq,Prod.mk.injEq] at h
   obtain ⟨rfl,rfl⟩:=h
   exact wpIn_ret (hQ a w G)
 | .label _,hok,_,_,_,_,_,_,_,_,_,_,_,_,_,_,_,_,_=>by simp [bN] at hok
 | .goto _,hok,_,_,_,_,_,_,_,_,_,_,_,_,_,_,_,_,_=>by simp [bN] at hok
end
end Go.Proofs.YtibbgjafjhcemaaGreatDoor.Cul
