/- Part of a proof by an abstract machine for the program's code: lemmas, without conditions of their own beyond those that each states. (Made smaller by a program: short names, no comments.) -/
import Derived.Deep.Upon
import Derived.OrdersIn
import Derived.LoopNIn
import Derived.TacticsIn
import Derived.OwnWalkIn
import Derived.RangeFuncCalls
import Derived.RangeFuncLeaves
import Derived.RangeFuncNested
import Derived.LoopN
import Derived.Laws.Sem
import Derived.Test.YtibbgjafjhcemaaDoorRTSG0
set_option linter.unusedVariables false
set_option linter.unusedSimpArgs false
namespace Go.Proofs.YtibbgjafjhcemaaDoor.Cul
open Go Go.RowKit
section
variable {P:Program} {base:Nat} {w:World} {Pr:aC} {bk:Key→Nat} {st:St} {a:Act} {N:Nat}
theorem vX (z:Array Value) (n s:Nat) (h:z.size=s):(Builtin.zeroCells z n).size=n* s:=by rw [size_zeroCells,h]
theorem Bw (I:Inv base w Pr bk st a N) {o:Oper} {d s n m cap b off:Nat} {old new:List PV} {olds news:List Value} {q:Pl} (j8:o.dst=some d) (hd:d<N)
  (hq:ud st q) (Fv:bk q.key=b) (JT:∀t,q= .s t→¬ee st t)
  (hro:aO w Pr old olds) (Wi:One olds) (Qt:aO w Pr new news) (xT:One news) (hlo:old.length=n* s) (hln:new.length=m* s) (RM:w.rangeAt b off olds) (Wk:∀i,i<olds.length→Pr b (off+i))
  (hR:Room w Pr b off n cap s) (hoff:off=0) (hfit:n+m≤cap)
  (he:(execOp a.eval o).run P w= .ok (.value (.slice (some ⟨b,off,none⟩) (n+m) cap)) (w.setCells b (off+n* s) news)):
  jK P base w Pr bk st a N o (({ st with gr:=st.gr.filter (fun x=>x.1≠q),tg:=st.tg.map (fX q)}).made (some d) { v:= .pv (.sl s (n+m) (old++new)),gr:=some s}):=by
 have bU:live st q.key:=by
  cases q with
  |s t=>exact .inr hq
  |c k o=>exact hq
 have hown:=I.own _ bU
 rw [Fv] at hown
 obtain ⟨cur,T,fW,gE⟩:=hR.there
 have ZT:=hro.length
 have ZS:=Qt.length
 have hmul:(n+m)* s≤cap* s:=Nat.mul_le_mul_right _ hfit
 have Rm:(n+m)* s=n* s+m* s:=Nat.add_mul ..
 have hle:off+n* s+news.length≤cur.size:=by omega
 rw [tG news (off+n* s) cur w fW hle] at he
 have hW:=lO w b (aZ cur.toList (off+n* s) news).toArray fW (by rw [List.size_toArray,iY (by simpa using hle)];simp)
 have hh:(w.setRow b (aZ cur.toList (off+n* s) news).toArray).heap[b]? =some (.cells (aZ cur.toList (off+n* s) news).toArray T (0,0)):=setRow_heap w _ _ _ _ _ fW
 have hsz:(aZ cur.toList (off+n* s) news).length=cur.size:=by unfold aZ;simp;omega
 have hcell:∀o',o'<off+n* s→(w.setRow b (aZ cur.toList (off+n* s) news).toArray).cell? ⟨b,o',none⟩=w.cell? ⟨b,o',none⟩:=fun o' ho'=>by
  rw [cell_of_row _ _ _ _ _ _ hh,cell_of_row _ _ _ _ _ _ fW]
  have:=jf cur.toList (off+n* s) news (by simp;omega) o' (.inl ho')
  simpa [aZ] using this
 obtain ⟨aD,fF⟩:∃aD:aC,∀b' o',aD b' o'↔(Pr b' o'∨(b'=b∧off+n* s≤o'∧o'<off+(n+m)* s)):=⟨fun b' o'=>_,fun _ _=>Iff.rfl⟩
 have hK:Kp w Pr (w.setRow b (aZ cur.toList (off+n* s) news).toArray) aD:=⟨fun b' o' h=>(fF b' o').2 (.inl h),fun b' o' hp=>by
  by_cases e:b'=b
  · subst e;exact hcell o' (hR.pr o' hp)
  · exact World.cell?_of_block (w:=w) (hW.other b' e)⟩
 have I2:=(I.release q).xB hW hown.2 (fun x hx e=>by
  obtain ⟨h1,h2⟩:=ke hx JT
  exact h2 (I.inj x q.key h1 bU (by rw [e,Fv]))) hK (fun b' o' h hne=>((fF b' o').1 h).resolve_right (fun h=>hne h.1))
 have cS:Rp (w.setRow b (aZ cur.toList (off+n* s) news).toArray) aD (.sl s (n+m) (old++new)) (.slice (some ⟨b,off,none⟩) (n+m) cap):=by
  refine .sl ((aO.mono hK hro).app (aO.mono hK Qt)) (fun v hv=> ?_) (by simp;omega) hfit (fun j v hj=> ?_) (fun i hi=> ?_)
  · simp only [List.mem_append] at hv;exact hv.elim (Wi v) (xT v)
  · by_cases hjo:j<olds.length
    · rw [List.getElem?_append_left hjo] at hj
      rw [hcell (off+j) (by omega)];exact RM j v hj
    · rw [List.getElem?_append_right (by omega)] at hj
      have hlt:j - olds.length<news.length:=(List.getElem?_eq_some_iff.1 hj).1
      rw [cell_of_row _ _ _ _ _ _ hh]
      simp only [List.getElem?_toArray,aZ]
      rw [List.append_assoc,List.getElem?_append_right (by simp;omega),List.getElem?_append_left (by simp;omega),←hj]
      congr 1
      simp only [List.length_take,Array.length_toList]
      omega
  · simp only [List.length_append] at hi
    by_cases V8:i<olds.length
    · exact (fF _ _).2 (.inl (Wk i V8))
    · exact (fF _ _).2 (.inr ⟨rfl,by omega,by omega⟩)
 have hroom:Room (w.setRow b (aZ cur.toList (off+n* s) news).toArray) aD b off (n+m) cap s:=
  ⟨hR.hz,hfit,⟨_,_,hh,by simp [hsz];exact gE⟩,fun o' h=>by
   rcases (fF _ _).1 h with h|h
   · have:=hR.pr o' h;omega
   · omega⟩
 have hm:dy base (w.setRow b (aZ cur.toList (off+n* s) news).toArray) aD bk { st with gr:=st.gr.filter (fun x=>x.1≠q),tg:=st.tg.map (fX q)} a { v:= .pv (.sl s (n+m) (old++new)),gr:=some s} (.slice (some ⟨b,off,none⟩) (n+m) cap):=by
  refine ⟨fun _ _=>cS,fun _ _ _ h=>by simp at h,fun z hz=> ?_,fun q h=>by simp at h⟩
  simp only [Option.some.injEq] at hz;subst hz
  refine ⟨b,off,n+m,cap,_,rfl,rfl,hroom,hoff,hown.1,by simpa using hown.2,fun x hx e=> ?_⟩
  obtain ⟨h1,h2⟩:=ke hx JT
  exact h2 (I.inj x q.key h1 bU (by rw [e,Fv]))
 obtain ⟨aQ,hI,hbk⟩:=I2.iC hd hm
 intro K Q zM
 unfold Oper.wp
 rw [he]
 show K (a.put o.dst _) _
 rw [j8]
 exact zM _ _ _ _ hI (hW.below hown.1) hK (fun b' o' hb' h=>((fF b' o').1 h).resolve_right (fun h=>by omega)) hW.ko (fun k _=>hbk k) rfl
theorem Dl (I:Inv base w Pr bk st a N) {o:Oper} {args:Array Operand} {ts:Array TypeId} {st':St} (ho:o.op= .call { callee:= .builtin .append,args:=args,argTypes:=ts}) (hN:∀d,o.dst=some d→d<N) (h:effect P o st=some st'):jK P base w Pr bk st a N o st':=by
 simp only [effect,ho] at h
 rw [Option.bind_eq_some_iff] at h
 obtain ⟨d,hd,h⟩:=h
 split at h
 · rename_i x y T U ha hts
   split at h
   · rename_i e e' hT hU
     simp only [Option.bind_eq_some_iff] at h
     obtain ⟨s,hs,z,hz,p,hp,⟨n,old⟩,hv,⟨m,new⟩,hy,h⟩:=h
     split at h
     · rename_i hc
       obtain ⟨fW,gE,Qi,MJ,Ff,MK⟩:=hc
       simp only at fW gE Ff MK
       obtain ⟨i,hi,Fl⟩:=jd hs
       obtain ⟨i',zv,hi',qK,qJ⟩:=kT (w:=w) (Pr:=Pr) hz
       rw [hi] at hi';cases hi'
       have hzl:zv.cells.size=s:=by
        obtain ⟨Ag,_⟩:=qJ.iI (iQ (iZ hz))
        have:=Ag.length
        rw [MJ] at this;simpa using this.symm
       obtain ⟨news,xT,hn2,hsrc⟩:=OI (P:=P) I (Option.bind_eq_some_iff.2 hy) Ff hU
       have DF:Src P i.size U (a.eval y) m news w:=by rw [Fl];exact hsrc
       have hbytes:P.bytesOf e=i.bytes:=by simp [Program.bytesOf,hi]
       rw [hbytes] at fW
       unfold room at fW gE
       have Qz:=Bp hv (iF I hp)
       have grow:∀(tI:St) (I2:Inv base w Pr bk tI a N) (A:Option Addr) (cap:Nat) (olds:List Value),a.eval x= .slice A n cap→aO w Pr old olds→One olds→
         (Builtin.firstCells i.size n (.slice A n cap)).run P w.drew= .ok olds.toArray w.drew→cap<n+m→jK P base w Pr bk st a N o (tI.made (some d) { v:= .pv (.sl s (n+m) (old++new)),gr:=some s}):=by
        intro tI I2 A cap olds hx hro DE hf hgt
        have hrun:=run_append_grow_src w T U o.type e i zv hT hi qK A n cap olds hf (a.eval y) m news DF hgt (by omega) (growslice_fits hgt (by simpa using fW))
        have hge:=grownCap_ge w (n+m) cap e
        refine EX (P:=P) (c:=grownCap w (n+m) cap e) (tail:=Builtin.zeroCells zv.cells (grownCap w (n+m) cap e - (n+m))) (e:=e) I2 hd (hN d hd) Qi (hro.app xT) (fun v hv=>by simp only [List.mem_append] at hv;exact hv.elim (DE v) (hn2 v)) (by simp only [List.length_append];rw [Nat.add_mul];omega) hge (vX _ _ _ hzl) ?_
        refine ot ho ha hts ?_
        rw [hx];exact hrun
       split at h
       · rename_i v0
         rcases Qz with ⟨rfl,rfl,hx⟩|⟨sz,b,o',cap,vs,JR,_⟩
         · split at h
           · rename_i hm0
             simp only [Option.some.injEq] at h;subst h
             simp only at hm0;subst hm0
             have hnews:news=[]:=List.eq_nil_of_length_eq_zero (by rw [←xT.length];simpa using Ff)
             subst hnews
             rw [eV]
             refine gP I hd (hN d hd) (v:= .slice none 0 0) ?_ (bA (by have:=iF I hp;rw [hx] at this;exact this))
             refine ot ho ha hts ?_
             rw [hx]
             exact run_append_nothing w T U o.type e i hT hi none 0 0 (Nat.le_refl _) (a.eval y) DF
           · rename_i hm0
             simp only [Option.some.injEq] at h;subst h
             simp only at hm0
             have:=grow st I none 0 [] hx .nil (fun _ h=>by simp at h) (run_firstCells_none _ _ _ _ _) (by omega)
             simpa using this
         · simp at JR
       · rename_i hnl
         rcases Qz with ⟨rfl,rfl,hx⟩|⟨sz,b,off,cap,olds,JR,hx,hro,DE,hlo,ZV,Nk,JS⟩
         ·
          split at h
          · rename_i t
            simp only [Option.map_eq_some_iff] at h
            obtain ⟨q,hq,h⟩:=h
            exfalso
            have hval:aJ st.gr q=some s∧(q= .s t∨st.tag t=some q):=by
             split at hq
             · rename_i hg;simp only [Option.some.injEq] at hq;subst hq;exact ⟨hg, .inl rfl⟩
             · split at hq
               · rename_i q' pU
                 split at hq
                 · rename_i hg;simp only [Option.some.injEq] at hq;subst hq;exact ⟨hg, .inr pU⟩
                 · simp at hq
               · simp at hq
            obtain ⟨v,cT,_⟩:=I.slots t (.pv p) (yU hp)
            have FC:a.eval (.tmp t)=v:=gU cT
            rw [hx] at FC
            have eX:cP a w bk q=a.tmps[t]? :=by
             rcases hval.2 with rfl|pU
             · rfl
             · simp only [St.tag,Option.bind_eq_some_iff,id] at pU
               obtain ⟨_,h1,rfl⟩:=pU
               exact I.tags t q h1 ⟨s,hval.1⟩
            cases q with
            |s u=>
             obtain ⟨_,_,_,_,_,e2,_⟩:=I.gQ u s hval.1
             simp only [cP] at eX;rw [e2,cT,←FC] at eX;simp at eX
            |c k j=>
             obtain ⟨_,_,_,_,_,_,_,e2,_⟩:=I.iA k j s hval.1
             simp only [cP] at eX;rw [e2,cT,←FC] at eX;simp at eX
          · simp at h
         · split at h
           · rename_i t
             simp only [Option.map_eq_some_iff] at h
             obtain ⟨q,hq,rfl⟩:=h
             have hval:aJ st.gr q=some s∧(q= .s t∨st.tag t=some q):=by
              split at hq
              · rename_i hg;simp only [Option.some.injEq] at hq;subst hq;exact ⟨hg, .inl rfl⟩
              · split at hq
                · rename_i q' pU
                  split at hq
                  · rename_i hg;simp only [Option.some.injEq] at hq;subst hq;exact ⟨hg, .inr pU⟩
                  · simp at hq
                · simp at hq
             obtain ⟨v,cT,_⟩:=I.slots t (.pv p) (yU hp)
             have FC:a.eval (.tmp t)=v:=gU cT
             have eX:cP a w bk q=a.tmps[t]? :=by
              rcases hval.2 with rfl|pU
              · rfl
              · simp only [St.tag,Option.bind_eq_some_iff,id] at pU
                obtain ⟨_,h1,rfl⟩:=pU
                exact I.tags t q h1 ⟨s,hval.1⟩
             rw [cT,←FC,hx] at eX
             have V4:ud st q:=⟨s,hval.1⟩
             obtain ⟨Fv,hR,hoff,JT⟩:bk q.key=b∧Room w Pr b off n cap s∧off=0∧(∀t,q= .s t→¬ee st t):=by
              cases q with
              |s u=>
               obtain ⟨o2,n2,L8,c2,e1,e2,e3,e0⟩:=I.gQ u s hval.1
               simp only [cP] at eX
               rw [e2] at eX
               simp only [Option.some.injEq,Value.slice.injEq,Addr.mk.injEq] at eX
               obtain ⟨⟨h1,rfl,_⟩,rfl,rfl⟩:=eX
               refine ⟨h1,by rw [←h1];exact e3,e0,fun t ht ⟨_,_,_,hx⟩=> ?_⟩
               cases ht;rw [e1] at hx;simp at hx
              |c k j=>
               obtain ⟨o2,n2,L8,c2,di,e0,e1,e2,e3,e9⟩:=I.iA k j s hval.1
               simp only [cP] at eX
               rw [e2] at eX
               simp only [Option.some.injEq,Value.slice.injEq,Addr.mk.injEq] at eX
               obtain ⟨⟨h1,rfl,_⟩,rfl,rfl⟩:=eX
               exact ⟨h1,by rw [←h1];exact e3,e9,fun t ht=>by simp at ht⟩
             by_cases hfit:n+m≤cap
             · refine Bw (P:=P) (b:=b) (off:=off) (cap:=cap) I hd (hN d hd) V4 Fv JT hro DE xT hn2 MK Ff Nk JS hR hoff hfit ?_
               refine ot ho ha hts ?_
               rw [hx]
               obtain ⟨cur,T',fH,hcs⟩:=hR.there
               have hmul:(n+m)* s≤cap* s:=Nat.mul_le_mul_right _ hfit
               have Rm:(n+m)* s=n* s+m* s:=Nat.add_mul ..
               have Z1:news.length=m* s:=by rw [←xT.length];exact Ff
               have:=run_append_room_src w T U o.type e i hT hi b off n cap (a.eval y) m news DF hfit (fun j hj=>by
                rw [cell_of_row _ _ _ _ _ _ fH,Fl]
                rw [Array.getElem?_eq_getElem (by omega)];rfl) (fun j hj=>frozen_of_row _ _ _ _ _ fH)
               rw [Fl] at this
               exact this
             · refine grow _ (I.release q) (some ⟨b,off,none⟩) cap olds hx hro DE ?_ (by omega)
               exact run_firstCells_some w.drew i.size n ⟨b,off,none⟩ n cap olds (by rw [Fl,←hro.length];exact MK) (fun j v hj=>by rw [Addr.add_mid];exact Nk j v hj)
           · simp at h
     · simp at h
   · simp at h
 · simp at h
theorem so {α:Type} (z:List α):∀(n m:Nat),n≤m→(bq z m).take (n* z.length)=bq z n
 |0,m,h=>by simp [bq]
 |n+1,0,h=>by omega
 |n+1,m+1,h=>by
  simp only [bq,Nat.add_mul,Nat.one_mul]
  rw [List.take_append,List.take_of_length_le (by omega),show n* z.length+z.length - z.length=n* z.length by omega,so z n m (by omega)]
theorem tN {α:Type} {z:List α}:∀n v,v∈bq z n→v∈z
 |0,v,h=>by simp [bq] at h
 |n+1,v,h=>by
  simp only [bq,List.mem_append] at h
  exact h.elim id (tN n v)
theorem yI (I:Inv base w Pr bk st a N) {o:Oper} {t:TypeId} {l c:Operand} {st':St} (ho:o.op= .makeSlice t l c) (hN:∀d,o.dst=some d→d<N) (h:effect P o st=some st'):jK P base w Pr bk st a N o st':=by
 simp only [effect,ho] at h
 rw [Option.bind_eq_some_iff] at h
 obtain ⟨d,hd,h⟩:=h
 split at h
 · rename_i e n m hu hl hc
   rw [Option.bind_eq_some_iff] at h
   obtain ⟨s,hs,h⟩:=h
   rw [Option.bind_eq_some_iff] at h
   obtain ⟨z,hz,h⟩:=h
   split at h
   · rename_i gW
     obtain ⟨hn0,hnm,hb,hm,hzl,hs0⟩:=gW
     obtain ⟨kn,hkn⟩:=int_eq I hl
     obtain ⟨km,hkm⟩:=int_eq I hc
     obtain ⟨i,hi,Fl⟩:=jd hs
     obtain ⟨i',zv,hi',qK,qJ⟩:=kT (w:=w) (Pr:=Pr) hz
     rw [hi] at hi';cases hi'
     obtain ⟨Ag,Ci⟩:=qJ.iI (iQ (iZ hz))
     have hzs:zv.cells.size=s:=by have:=Ag.length;rw [hzl] at this;simpa using this.symm
     have hbytes:P.bytesOf e=i.bytes:=by simp [Program.bytesOf,hi]
     rw [hbytes] at hb
     unfold room at hb hm
     have hwn:IntKind.i64.wrap n=n:=IntWalk.i64_in _ (by omega)
     have WE:IntKind.i64.wrap m=m:=IntWalk.i64_in _ (by omega)
     have VT:(i.bytes:Int)* m≤140737488355328:=by rw [Int.mul_comm];exact hb
     have hbn:(i.bytes:Int)* n≤140737488355328:=Int.le_trans (Int.mul_le_mul_of_nonneg_left hnm (by omega)) VT
     have Nz:((Array.range (m.toNat* s)).map (zv.cells[· %zv.cells.size]!))=(bq zv.cells.toList m.toNat).toArray:=by rw [←hzs];exact Br _ _
     have hrun:(execOp a.eval o).run P w= .ok (.value (.slice (some ⟨w.heap.size,0,none⟩) n.toNat m.toNat)) (w.alloc (.cells (bq zv.cells.toList m.toNat).toArray e)):=by
      simp only [execOp,ho,hkn,hkm]
      refine dH ?_
      have rE:=vR (P:=P) e (bq zv.cells.toList m.toNat).toArray w
      have h1:¬(m<0):=by omega
      have h2:¬(281474976710656<(i.bytes:Int)* m):=by omega
      have h3:¬(n<0):=by omega
      have h4:¬(m<n):=by omega
      have hroom:(askRoom (m.toNat* i.bytes)).run P w= .ok () w:=by
       unfold askRoom;split<;>rfl
      have hT:(underlying t).run P w= .ok (.slice e) w:=fA hu w
      have RX:(zeroValue e).run P w= .ok zv w:=by simp [zeroValue,typeInfo,hi,qK]
      have Rr:¬(decide (m<0)||decide (↑i.bytes* m>2^48)||decide (n<0)||decide (n>m))=true:=by
       simp only [Bool.or_eq_true,decide_eq_true_eq,not_or]
       refine ⟨⟨⟨h1, ?_⟩,h3⟩, ?_⟩<;>omega
      unfold Instr.makeSlice
      rw [Sem.run_bind,hT,Result.andThen_ok]
      simp only [Sem.run_bind,asInt,asIntOf,typeInfo,program,Sem.run,hi,hwn,WE,Sem.run_pure,Result.andThen_ok]
      rw [if_neg Rr]
      simp only [Sem.run_bind,Sem.run_pure,Result.andThen_ok,hroom,fZ hs]
      by_cases hm0:m.toNat* s=0
      · have:m.toNat=0:=(Nat.mul_eq_zero.1 hm0).resolve_right (by omega)
        simp only [if_pos hm0,Sem.run_bind,Sem.run_pure,Result.andThen_ok]
        rw [this] at rE ⊢
        simp only [Nat.zero_mul,bq] at rE ⊢
        have Cg:(Array.map (fun x=>(#[]:Array Value)[x%(#[]:Array Value).size]!) (Array.range 0))= #[]:=by simp
        rw [Cg]
        rw [rE];rfl
      · simp only [if_neg hm0,Sem.run_bind,Sem.run_pure,Result.andThen_ok,RX,Nz,rE]
     have hf:=ru I (.cells (bq zv.cells.toList m.toNat).toArray e)
     have hh:(w.alloc (.cells (bq zv.cells.toList m.toNat).toArray e)).heap[w.heap.size]? =some (.cells (bq zv.cells.toList m.toNat).toArray e (0,0)):=heap_alloc w _
     have NA:(bq zv.cells.toList m.toNat).length=m.toNat* s:=by rw [fC];simp [hzs]
     have Nl:∀k,k≤m.toNat→Room (w.alloc (.cells (bq zv.cells.toList m.toNat).toArray e)) Pr w.heap.size 0 k m.toNat s:=fun k hk=>
      ⟨hs0,hk,⟨_,_,hh,by simp [NA]⟩,fun o' h=>absurd (I.bL _ _ h) (by omega)⟩
     have hfree:∀x,live st x→bk x≠w.heap.size:=fun x hx e=>by have:=(I.own x hx).2;omega
     have fin:∀(mm:Made),dy base (w.alloc (.cells (bq zv.cells.toList m.toNat).toArray e)) Pr bk st a mm (.slice (some ⟨w.heap.size,0,none⟩) n.toNat m.toNat)→jK P base w Pr bk st a N o (st.made (some d) mm):=by
      intro mm hm K Q hK
      obtain ⟨aQ,hI,hbk⟩:=(I.fw hf).iC (hN d hd) hm
      unfold Oper.wp
      rw [hrun]
      show K (a.put o.dst _) _
      rw [hd]
      exact hK _ _ _ _ hI (hf.gO.mono I.hb) (hf.kp I.bL) (fun b o hb h=>hf.old b o (Nat.lt_of_lt_of_le hb I.hb) h) hf.ko (fun k _=>hbk k) rfl
     split at h
     · rename_i Na
       simp only [Option.some.injEq] at h;subst h
       subst Na
       refine fin _ ⟨fun _ _=> ?_,fun _ _ _ h=>by simp at h,fun z' dX=> ?_,fun q h=>by simp at h⟩
       · exact Rp.sl (vs:=[]) .nil (by simp) (by simp) (by simp) (fun j v hj=>by simp at hj) (fun i hi=>by simp at hi)
       · simp only [Option.some.injEq] at dX;subst dX
         exact ⟨w.heap.size,0,0,m.toNat,[],rfl,rfl,Nl 0 (by omega),rfl,I.hb,by simp,hfree⟩
     · rename_i Na
       have hpre:bq zv.cells.toList n.toNat<+:(bq zv.cells.toList m.toNat).toArray.toList:=by
        have Wz:=so zv.cells.toList n.toNat m.toNat (by omega)
        rw [←Wz];simpa using List.take_prefix _ _
       have RW:=aO.mono (hf.kp I.bL) (qE Ag n.toNat)
       have ZU:(bq z.cells n.toNat).length=n.toNat* s:=by rw [fC,hzl]
       intro K Q hK
       obtain ⟨aQ,hI,_,hbk⟩:=(I.fw hf).dw (uJ:= .bs d 0 s n.toNat) (v0:= .slice (some ⟨w.heap.size,0,none⟩) n.toNat m.toNat) (hN d hd) hh hpre I.hb hfree (fun o' h=>absurd (I.bL _ _ h) (by omega)) RW (fun v hv=>Ci v (tN n.toNat v hv)) rfl (by simp)
        (fun tI a2 gA t h1 h2=>⟨0,m.toNat,_,_,e,by rw [h2], .inl rfl,h1,by omega,hs0,by omega,by rw [h2];exact hh,by simp [NA]⟩) h
       unfold Oper.wp
       rw [hrun]
       show K (a.put o.dst _) _
       rw [hd]
       exact hK _ _ _ _ hI (hf.gO.mono I.hb) (hf.kp I.bL) (fun b o hb h=>hf.old b o (Nat.lt_of_lt_of_le hb I.hb) h) hf.ko (fun k hk=>hbk k (fun e=>hk (by rw [hd,e]))) rfl
   · simp at h
 · simp at h
end
end Go.Proofs.YtibbgjafjhcemaaDoor.Cul
namespace Go.Proofs.YtibbgjafjhcemaaDoor.Cul
open Go Go.RowKit
section
variable {P:Program} {base:Nat} {w:World} {Pr:aC} {bk:Key→Nat} {st:St} {a:Act} {N:Nat}
theorem Inv.cZ (I:Inv base w Pr bk st a N) {w':World} {k:Nat} {cs cs':List PV} {c c':Array Value} {T:TypeId} {us':List Value} (hk:look st.bx k=some cs) (hlen:cs'.length=cs.length)
  (hos:w'.os=w.os) (WA:w'.tape=w.tape) (hout:w'.output=w.output) (hsz:w.heap.size≤w'.heap.size) (z8:∀j,j<w.heap.size→j≠bk (.bx k)→w'.heap[j]? =w.heap[j]?)
  (hb:w.heap[bk (.bx k)]? =some (.cells c T (0,0))) (hb':w'.heap[bk (.bx k)]? =some (.cells c' T (0,0))) (hs:c'.size=c.size) (hpre:us'<+:c'.toList) (hr:aO w' Pr cs' us') (h1:One us'):
  Inv base w' Pr bk (st.cZ k cs') a N∧Below base w w'∧Kp w Pr w' Pr∧KO w w':=by
 have hown:=I.own (.bx k) ⟨cs,hk⟩
 have hfree:=(I.boxes k cs hk).2
 have hK:Kp w Pr w' Pr:=⟨fun _ _ h=>h,fun b o hp=>by
  have hne:b≠bk (.bx k):=fun e=>hfree o (by rw [←e];exact hp)
  exact World.cell?_of_block (w:=w) (z8 b (I.bL b o hp) hne)⟩
 have gq:KO w w':=⟨⟨hsz,fun j o h ho=>by
  have hne:j≠bk (.bx k):=fun e=>by subst e;rw [hb] at h;cases h;simp [Obj.isCells] at ho
  exact (z8 j (Array.getElem?_eq_some_iff.1 h).1 hne).trans h⟩,fun j c2 T2 Vc h=>by
  by_cases e:j=bk (.bx k)
  · subst e;rw [hb] at h;cases h;exact ⟨c',hb',hs⟩
  · exact ⟨c2,(z8 j (Array.getElem?_eq_some_iff.1 h).1 e).trans h,rfl⟩⟩
 have hne:∀x,live st x→x≠ .bx k→bk x≠bk (.bx k):=fun x hx oS e=>oS (I.inj x (.bx k) hx ⟨cs,hk⟩ e)
 have hlv:∀x,live st x→x≠ .bx k→w'.heap[bk x]? =w.heap[bk x]? :=fun x hx oS=>z8 _ (I.own x hx).2 (hne x hx oS)
 have dj:∀j dL,look (st.cZ k cs').bx j=some dL→(j=k∧dL=cs')∨(j≠k∧look st.bx j=some dL):=by
  intro j dL hq
  simp only [St.cZ,look] at hq
  split at hq
  · rename_i e;simp only [Option.some.injEq] at hq;exact .inl ⟨e.symm,hq.symm⟩
  · rename_i e;rw [bD,if_neg (Ne.symm e)] at hq;exact .inr ⟨Ne.symm e,hq⟩
 have zR:∀j dL,look st.bx j=some dL→∃B2,look (st.cZ k cs').bx j=some B2∧B2.length=dL.length:=fun j dL e=>by
  simp only [St.cZ,look]
  by_cases hj:k=j
  · subst hj;rw [if_pos rfl];rw [hk] at e;cases e;exact ⟨_,rfl,hlen⟩
  · rw [if_neg hj,bD,if_neg (Ne.symm hj)];exact ⟨dL,e,rfl⟩
 have dO:∀p z,aJ (st.cZ k cs').gr p=some z→p.eK k=true∧aJ st.gr p=some z:=by
  intro p z hp
  simp only [St.cZ] at hp
  rw [iO] at hp
  split at hp
  · exact ⟨‹_›,hp⟩
  · simp at hp
 have bU:∀x,live (st.cZ k cs') x→live st x:=by
  intro x hx
  cases x with
  |bx j=>
   obtain ⟨dL,hq⟩:=hx
   rcases dj j dL hq with ⟨rfl,_⟩|⟨_,hq⟩
   · exact ⟨cs,hk⟩
   · exact ⟨dL,hq⟩
  |sx t=>
   rcases hx with hx|⟨z,hz⟩
   · exact .inl hx
   · exact .inr ⟨z,(dO _ z hz).2⟩
  |cx j o=>obtain ⟨z,hz⟩:=hx;exact ⟨z,(dO _ z hz).2⟩
 have hroom:∀x,live st x→x≠ .bx k→∀{o n cap sz},Room w Pr (bk x) o n cap sz→Room w' Pr (bk x) o n cap sz:=fun x hx oS {o n cap sz} h=>
  ⟨h.hz,h.le,by obtain ⟨c,T,e1,e2⟩:=h.there;exact ⟨c,T,(hlv x hx oS).trans e1,e2⟩,h.pr⟩
 refine ⟨?_,⟨hos,WA,hout,hsz,fun j hj=>z8 j (Nat.lt_of_lt_of_le hj I.hb) (by omega)⟩,hK,gq⟩
 constructor
 · exact I.size
 · exact ⟨fun d hd=>(I.defers.1 d hd).ko gq,I.defers.2⟩
 · exact Nat.le_trans I.hb hsz
 · exact fun b o h=>Nat.lt_of_lt_of_le (I.bL b o h) hsz
 · intro t av ht
   obtain ⟨v,hv,cS⟩:=I.slots t av ht
   refine ⟨v,hv, ?_⟩
   have j7:∀{j off sz n v},gS st w bk j off sz n v→gS (st.cZ k cs') w' bk j off sz n v:=fun {j off sz n v} h=>h.to rfl (zR j) (fun c T e=>gq.sized _ c T _ e)
   cases av with
   |pv p=>exact Rp.mono hK cS
   |bp j off=>exact cS
   |cl f caps=>obtain ⟨vs,h1,h2,h3⟩:=cS;exact ⟨vs,h1,h2,fun i c u hc hu=>gT.mono hK (h3 i c u hc hu)⟩
   |ex sz n c=>
    obtain ⟨o,cap,vs,h1,h2,h3,h4,h5,h6,h7⟩:=cS
    have hl:live st (.sx t):= .inl ⟨sz,n,c,ht⟩
    exact ⟨o,cap,vs,h1,aO.mono hK h2,h3,h4,iU (hlv _ hl (by simp)) h5,hroom _ hl (by simp) h6,h7⟩
   |xr u=>exact cS
   |xe u off=>exact cS
   |bX _ _=>exact cS
   |dead=>trivial
   |bs j off sz n=>exact j7 cS
   |mv f j off sz n=>obtain ⟨u,h1,h2⟩:=cS;exact ⟨u,h1,j7 h2⟩
   |tg j off sz n rest=>obtain ⟨u,us,h1,h2,h3⟩:=cS;exact ⟨u,us,h1,j7 h2,aO.mono hK h3⟩
 · exact fun x hx=>⟨(I.own x (bU x hx)).1,Nat.lt_of_lt_of_le (I.own x (bU x hx)).2 hsz⟩
 · exact fun x y hx hy=>I.inj x y (bU x hx) (bU y hy)
 · intro j dL hq
   rcases dj j dL hq with ⟨rfl,rfl⟩|⟨oQ,hq⟩
   · exact ⟨⟨T,c',us',hb',hpre,hr,h1⟩,hfree⟩
   · obtain ⟨⟨T',c2,Y3,e1,e0,e2,e3⟩,e4⟩:=I.boxes j dL hq
     exact ⟨⟨T',c2,Y3,(hlv (.bx j) ⟨dL,hq⟩ (by simpa using oQ)).trans e1,e0,aO.mono hK e2,e3⟩,e4⟩
 · intro t z hz
   obtain ⟨_,hz⟩:=dO _ z hz
   obtain ⟨o,n,cap,c2,e1,e2,e3,e0⟩:=I.gQ t z hz
   exact ⟨o,n,cap,c2,e1,e2,hroom (.sx t) (.inr ⟨z,hz⟩) (by simp) e3,e0⟩
 · intro j i z hz
   obtain ⟨hnb,hz⟩:=dO _ z hz
   have oQ:j≠k:=by simpa [Pl.eK] using hnb
   obtain ⟨o,n,cap,c2,di,e1,e2,e3,e4,e0⟩:=I.iA j i z hz
   refine ⟨o,n,cap,c2,di, ?_,e2, ?_,hroom (.cx j i) ⟨z,hz⟩ (by simp) e4,e0⟩
   · simp only [St.cZ,look];rw [if_neg (Ne.symm oQ),bD,if_neg oQ];exact e1
   · rw [←e3];exact World.cell?_of_block (w:=w) (hlv (.bx j) ⟨di,e1⟩ (by simpa using oQ))
 · intro t q ht hq
   simp only [St.cZ] at ht
   rw [bT (mB k) (fun _ x=>x.bind fun p=>if p.eK k then some p else none) (fun _=>rfl)] at ht
   cases hm:look st.tg t with
   |none=>simp [hm] at ht
   |some p=>
    simp only [hm,Option.map_some,Option.some.injEq,Option.bind_eq_some_iff] at ht
    obtain ⟨p',rfl,ht⟩:=ht
    split at ht
    · rename_i hnb
      simp only [Option.some.injEq] at ht;subst ht
      obtain ⟨z,hz⟩:=hq
      obtain ⟨_,hz⟩:=dO _ z hz
      rw [←I.tags t _ hm ⟨z,hz⟩]
      cases p' with
      |s u=>rfl
      |c j i=>
       obtain ⟨o,n,cap,c2,di,e1,_⟩:=I.iA j i z hz
       have oQ:j≠k:=by simpa [Pl.eK] using hnb
       simp only [cP]
       exact World.cell?_of_block (w:=w) (hlv (.bx j) ⟨di,e1⟩ (by simpa using oQ))
    · simp at ht
end
end Go.Proofs.YtibbgjafjhcemaaDoor.Cul
namespace Go.Proofs.YtibbgjafjhcemaaDoor.Cul
open Go Go.RowKit
section
variable {P:Program} {base:Nat} {w:World} {Pr:aC} {bk:Key→Nat} {st:St} {a:Act} {N:Nat}
inductive nL (st:St) (a:Act) (w:World) (Pr:aC) (bk:Key→Nat):List AV→List Value→Prop
 |nil:nL st a w Pr bk [] []
 |cons {av:AV} {v:Value} {gy:List AV} {vs:List Value} {t:Nat} (h:dJ st a w Pr bk t av v) (hs:nL st a w Pr bk gy vs):nL st a w Pr bk (av::gy) (v::vs)
theorem ua (I:Inv base w Pr bk st a N):∀{l:List Operand} {gy:List AV},sE st l=some gy→nL st a w Pr bk gy (l.map a.eval)
 |[],gy,h=>by simp [sE] at h;subst h;exact .nil
 |x::l,gy,h=>by
  simp only [sE,Option.bind_eq_some_iff,Option.map_eq_some_iff] at h
  obtain ⟨v,hv,r,hr,rfl⟩:=h
  obtain ⟨t,h1⟩:=eP I hv
  exact .cons h1 (ua I hr)
theorem Bu (I:Inv base w Pr bk st a N) {o:Oper} {f:Nat} {gy:List AV} (h:kF st o=some (f,gy)):∃us:List Value,execOp a.eval o=callFunc f us.toArray∧nL st a w Pr bk gy us:=by
 unfold kF at h
 split at h
 · rename_i g args ts ho
   split at h
   · rename_i f' hg
     simp only [Option.map_eq_some_iff,Prod.mk.injEq] at h
     obtain ⟨l,hl,rfl,rfl⟩:=h
     have tj:=eO I hg
     generalize hge:a.eval g=gv at tj
     cases tj with
     |fn hcs=>
      cases hcs
      exact ⟨_,by simpa using lE (cs:=[]) ho hge,ua I hl⟩
   · rename_i f' k off sz n hg
     simp only [Option.map_eq_some_iff,Prod.mk.injEq] at h
     obtain ⟨l,hl,rfl,rfl⟩:=h
     obtain ⟨u,hge,hu⟩:=Pg I hg
     refine ⟨u::args.toList.map a.eval, ?_, .cons (t:=0) hu (ua I hl)⟩
     have: #[u]++args.map a.eval=(u::args.toList.map a.eval).toArray:=Array.ext' (by simp)
     simp [execOp,ho,resolve,hge,Deferred.ofValue,invoke,this]
   · simp at h
 · simp at h
theorem vz {b size:Nat} {lT:List PV} {jr:Nat}:∀{gy:List AV} {ms:List MA} {us:List Value},gy.any cc=false→nU st gy=some ms→nL st a w Pr bk gy us→mK w Pr b size lT jr ms us
 |[],ms,us,_,h,k=>by simp [nU] at h;subst h;cases k;exact .nil
 |v::l,ms,us,hl,h,k=>by
  simp only [nU,Option.bind_eq_some_iff,Option.map_eq_some_iff] at h
  obtain ⟨m,hm,r,hr,rfl⟩:=h
  simp only [List.any_cons,Bool.or_eq_false_iff] at hl
  cases k with
  |cons h1 hs=>
   have ih:=vz (b:=b) (size:=size) (lT:=lT) (jr:=jr) hl.2 hr hs
   cases v with
   |pv p=>simp only [xg,Option.some.injEq] at hm;subst hm;exact .p h1 ih
   |bs k off sz n=>simp [cc] at hl
   |_=>simp [xg] at hm
theorem tB {k sz:Nat} {cs:List PV} {c:Array Value} {T:TypeId} (hk:look st.bx k=some cs) (hb:w.heap[bk (.bx k)]? =some (.cells c T (0,0))):∀{gy:List AV} {ms:List MA} {us:List Value},gD gy=some (k,sz)→nU st gy=some ms→nL st a w Pr bk gy us→
  mK w Pr (bk (.bx k)) c.size cs sz ms us∧dn ms=some cs
 |[],ms,us,hg,_,_=>by simp [gD] at hg
 |v::l,ms,us,hg,h,kk=>by
  simp only [nU,Option.bind_eq_some_iff,Option.map_eq_some_iff] at h
  obtain ⟨m,hm,r,hr,rfl⟩:=h
  cases kk with
  |cons h1 hs=>
   cases v with
   |bs j off sz' n=>
    simp only [gD] at hg
    split at hg
    · simp at hg
    · rename_i hl
      simp only [Option.some.injEq,Prod.mk.injEq] at hg
      obtain ⟨rfl,rfl⟩:=hg
      simp only [xg,Option.map_eq_some_iff] at hm
      obtain ⟨dL,hk2,rfl⟩:=hm
      rw [hk] at hk2;cases hk2
      obtain ⟨o,cap,B2,c3,T3,e1,e2,e3,e4,e5,e6,e7,e8⟩:=h1
      rw [hk] at e3;cases e3
      rw [hb] at e7;cases e7
      exact ⟨.g ⟨o,cap,e1,e2,e4,e5,e6,e8⟩ (vz (by simpa using hl) hr hs),rfl⟩
   |pv p=>
    simp only [gD] at hg
    split at hg
    · simp at hg
    · simp only [xg,Option.some.injEq] at hm;subst hm
      obtain ⟨i1,i2⟩:=tB hk hb hg hr hs
      exact ⟨.p h1 i1,i2⟩
   |_=>simp [xg] at hm
theorem tf {k sz:Nat}:∀{gy:List AV},gD gy=some (k,sz)→∃off n,AV.bs k off sz n∈gy
 |[],h=>by simp [gD] at h
 |v::l,h=>by
  cases v with
  |bs j off sz' n=>
   simp only [gD] at h
   split at h
   · simp at h
   · simp only [Option.some.injEq,Prod.mk.injEq] at h
     obtain ⟨rfl,rfl⟩:=h
     exact ⟨off,n,by simp⟩
  |_=>
   simp only [gD] at h
   split at h
   · simp at h
   · obtain ⟨off,n,hm⟩:=tf h
     exact ⟨off,n,List.mem_cons_of_mem _ hm⟩
theorem xC:∀{gy:List AV} {us:List Value},nL st a w Pr bk gy us→∀av∈gy,∃t v,dJ st a w Pr bk t av v
 |_,_, .nil,av,h=>by simp at h
 |_,_, .cons h1 hs,av,h=>by
  rcases List.mem_cons.1 h with rfl|h
  · exact ⟨_,_,h1⟩
  · exact xC hs av h
theorem KU {call:Cl} (hC:aI P call) (I:Inv base w Pr bk st a N) {o:Oper} {f:Nat} {gy:List AV} {st':St} (hN:∀d,o.dst=some d→d<N) (hc:kF st o=some (f,gy)) (h:sI call o st f gy=some st'):jK P base w Pr bk st a N o st':=by
 simp only [sI,Option.bind_eq_some_iff] at h
 obtain ⟨⟨k,sz⟩,hg,ms,M9,⟨r,cs'⟩,hr,h⟩:=h
 split at h
 · rename_i hok
   simp only [Option.some.injEq] at h
   obtain ⟨us,he,cS⟩:=Bu I hc
   obtain ⟨off,n,hmem⟩:=tf hg
   obtain ⟨t0,v0,j7⟩:=xC cS _ hmem
   obtain ⟨_,_,cs,c0,T0,_,_,hk,_,_,_,hb0,_⟩:=j7
   obtain ⟨⟨T,c,vs,hb,hpre,hrl,hone⟩,hfree⟩:=I.boxes k cs hk
   obtain ⟨hma,xQ⟩:=tB hk hb hg M9 cS
   obtain ⟨hbody,bZ⟩:=hC.mu f ms r cs' hr
   intro K Q hK
   refine nI he hbody (bZ cs sz us w Pr (bk (.bx k)) T c xQ I.bL ⟨hb,⟨vs,hpre,hrl,hone⟩,hfree⟩ hma) ?_
   rintro e w' ⟨v,rfl,hm⟩
   refine ⟨v,rfl, ?_⟩
   obtain ⟨c',zY,hcs⟩:=hm.Pk
   obtain ⟨us',hp',hr',ho'⟩:=zY.pre
   obtain ⟨I2,iL,hkp,gq⟩:=I.cZ hk hm.len hm.os hm.tape hm.output hm.size hm.other hb zY.qF hcs hp' hr' ho'
   have Wd:look (st.cZ k cs').bx k=some cs':=by simp [St.cZ,look]
   have Fj:∀{off n u},BS (bk (.bx k)) c.size cs' off sz n u→gS (st.cZ k cs') w' bk k off sz n u:=fun {off n u} h=>by
    obtain ⟨o',cap,e1,e2,e3,e4,e5,e6⟩:=h
    exact ⟨o',cap,cs',c',T,e1,e2,Wd,e3,e4,e5,zY.qF,by omega⟩
   have u7:∀t,dJ (st.cZ k cs') a w' Pr bk t (xp k sz r) v:=fun t=>by
    have:=hm.res
    cases r with
    |pv p=>exact this
    |gs off n=>exact Fj this
    |gt off n rest=>obtain ⟨u,us,e1,e2,e3⟩:=this;exact ⟨u,us,e1,Fj e2,e3⟩
   have hne:∀sz' n cs,xp k sz r≠ .ex sz' n cs:=by intro _ _ _;cases r<;>simp [xp]
   cases hd:o.dst with
   |none=>
    rw [hd] at h
    rw [←h] at hK
    exact hK a w' Pr bk I2 iL hkp (fun _ _ _ h=>h) gq (fun _ _=>rfl) rfl
   |some d=>
    rw [hd] at h
    rw [eV] at h
    have hmo:dy base w' Pr bk (st.cZ k cs') a { v:=xp k sz r} v:=⟨fun _=>u7,fun _ _ _ h=>absurd h (hne _ _ _),fun z h=>by simp at h,fun q h=>by simp at h⟩
    obtain ⟨aQ,hI,hbk⟩:=I2.iC (hN d hd) hmo
    rw [←h] at hK
    exact hK _ w' Pr aQ hI iL hkp (fun _ _ _ h=>h) gq (fun j _=>hbk j) rfl
 · simp at h
theorem pY:∀{cs:List PV} {vs:List Value} {w:World} {Pr:aC},cs.all cJ=true→aO w Pr cs vs→∀{w2:World} {k9:aC},aO w2 k9 cs vs
 |_,_,_,_,_, .nil,_,_=> .nil
 |_,_,_,_,h, .cons h1 hs,_,_=>by
  simp only [List.all_cons,Bool.and_eq_true] at h
  refine .cons ?_ (pY h.2 hs)
  cases h1 with
  |lit hsc=>exact .lit hsc
  |_=>simp [cJ] at h
theorem rS {b:Nat} {c:Array Value} {T:TypeId} {vs:List Value} (h:w.heap[b]? =some (.cells c T (0,0))) (hr:w.rangeAt b 0 vs):vs<+:c.toList:=by
 refine ⟨c.toList.drop vs.length, ?_⟩
 have key:c.toList.take vs.length=vs:=by
  apply List.ext_getElem?
  intro i
  by_cases hi:i<vs.length
  · rw [List.getElem?_take_of_lt hi,Array.getElem?_toList]
    have:=hr i _ (List.getElem?_eq_getElem hi)
    rw [cell_of_row _ _ _ _ _ _ h,Nat.zero_add] at this
    rw [this,List.getElem?_eq_getElem hi]
  · rw [List.getElem?_take,if_neg hi,List.getElem?_eq_none (by omega)]
 calc vs++c.toList.drop vs.length=c.toList.take vs.length++c.toList.drop vs.length:=by rw [key]
  _=c.toList:=List.take_append_drop ..
theorem Mf {call:Cl} (hC:aI P call) (I:Inv base w Pr bk st a N) {o:Oper} {st':St} (hN:∀d,o.dst=some d→d<N) (h:uX call o st=some st'):jK P base w Pr bk st a N o st':=by
 unfold uX at h
 split at h
 · rename_i g args ts ho
   split at h
   · rename_i f caps hg
     split at h
     · simp at h
     · rename_i hout
       simp only [Option.bind_eq_some_iff] at h
       obtain ⟨gm,has,r,hr,d,hd,h⟩:=h
       split at h
       · rename_i sz n cs z hv hz
         split at h
         · rename_i gW
           obtain ⟨rfl,Ih⟩:=gW
           obtain ⟨hbody,bZ⟩:=hC.fn f _ r hr
           have tj:=eO I hg
           generalize hge:a.eval g=gv at tj
           cases tj with
           |fn hcs=>
            have hargs:=(j4 I (by simpa using hout) has).app hcs
            intro K Q hK
            refine nI (lE ho hge) hbody (bZ _ w Pr I.bL hargs) ?_
            rintro e w' ⟨v,aD,rfl,ef⟩
            refine ⟨v,rfl, ?_⟩
            obtain ⟨b,o',n',cap,dL,e1,e2,hroom,e3,e4,e5⟩:=ef.gr z hz
            rw [hv] at e1
            simp only [PV.sl.injEq,true_and] at e1
            obtain ⟨rfl,rfl⟩:=e1
            subst e3
            obtain ⟨qM,u6⟩:∃qM:aC,∀b' o,qM b' o↔(aD b' o∧b'≠b):=⟨fun b' o=>_,fun _ _=>Iff.rfl⟩
            have hf:Fw w Pr w' qM:=⟨ef.fw.gO,fun b' o h=>(u6 b' o).2 ⟨ef.fw.pr b' o h,fun e=>by have:=I.bL b' o h;omega⟩,fun b' o hlt h=>ef.fw.old b' o hlt ((u6 b' o).1 h).1,fun b' o h=>ef.fw.new b' o ((u6 b' o).1 h).1⟩
            obtain ⟨c,T,hb,hsz⟩:=hroom.there
            obtain ⟨vs,hrl,hone,hpre,hlen⟩:∃vs,aO w' qM cs vs∧One vs∧vs<+:c.toList∧cs.length=n* z:=by
             have cS:=ef.rp
             rw [hv,e2] at cS
             cases cS with
             |sl gF h1 hl hn hc hp=>exact ⟨_,pY Ih gF,h1,rS hb hc,hl⟩
            obtain ⟨aQ,hI,_,hbk⟩:=(I.fw hf).dw (uJ:= .bs d 0 z n) (v0:=v) (hN d hd) hb hpre (Nat.le_trans I.hb e4) (fun x hx e=>by have:=(I.own x hx).2;omega) (fun o h=>((u6 b o).1 h).2 rfl) hrl hone rfl (by simp)
             (fun tI a2 gA t h1 h2=>⟨0,cap,_,c,T,by rw [h2];exact e2, .inl rfl,h1,by omega,hroom.hz,hroom.le,by rw [h2];exact hb,hsz⟩) h
            rw [hd]
            exact hK _ w' qM aQ hI (hf.gO.mono I.hb) (hf.kp I.bL) (fun b o hb h=>hf.old b o (Nat.lt_of_lt_of_le hb I.hb) h) hf.ko (fun k hk=>hbk k (fun e=>hk (by rw [hd,e]))) rfl
         · simp at h
       · simp at h
   · simp at h
 · simp at h
end
end Go.Proofs.YtibbgjafjhcemaaDoor.Cul
namespace Go.Proofs.YtibbgjafjhcemaaDoor.Cul
open Go Go.RowKit
structure ew where
 k:Nat→Option Nat
 ds:Option (List Deferred)
section
variable {P:Program} {base:Nat} {w:World} {Pr:aC} {bk:Key→Nat} {st:St} {a:Act} {N:Nat} {aS:ew}
theorem EV (I:Inv base w Pr bk st a N) {o:Oper} {st':St} (hN:∀d,o.dst=some d→d<N) (h:effect P o st=some st'):jK P base w Pr bk st a N o st':=by
 cases ho:o.op with
 |assign x=>exact Dm I ho hN h
 |alloc t=>exact EW I ho hN h
 |box t x=>exact KT I ho hN h
 |store t x y=>exact EZ I ho h
 |makeSlice t l c=>exact yI I ho hN h
 |call c=>
  obtain ⟨callee,args,ts⟩:=c
  cases callee with
  |value g=>simp [effect,ho] at h
  |builtin b=>
   cases b with
   |append=>exact Dl I ho hN h
   |_=>simp [effect,ho] at h
  |invoke r n=>simp [effect,ho] at h
 |_=>simp [effect,ho] at h
theorem uu (a:Act) (v:Value):a.put none v=a:=rfl
theorem EY (I:Inv base w Pr bk st a N) {o:Oper} {m:Made} (hN:∀d,o.dst=some d→d<N) (h:gY P base w Pr bk st a o m):jK P base w Pr bk st a N o (st.made o.dst m):=by
 intro K Q hK
 refine h K Q fun v w' aD hf hm=> ?_
 have I2:=I.fw hf
 cases hd:o.dst with
 |none=>exact hK a w' aD bk (by rw [hd];exact I2) (hf.gO.mono I.hb) (hf.kp I.bL) (fun b o hb h=>hf.old b o (Nat.lt_of_lt_of_le hb I.hb) h) hf.ko (fun _ _=>rfl) rfl
 |some d=>
  obtain ⟨aQ,hI,hbk⟩:=I2.iC (hN d hd) hm
  exact hK _ w' aD aQ (by rw [hd];exact hI) (hf.gO.mono I.hb) (hf.kp I.bL) (fun b o hb h=>hf.old b o (Nat.lt_of_lt_of_le hb I.hb) h) hf.ko (fun k _=>hbk k) rfl
theorem uH {call:Cl} (hC:aI P call) (I:Inv base w Pr bk st a N) {o:Oper} {st':St} (hN:∀d,o.dst=some d→d<N) (h:lf P call o st=some st'):jK P base w Pr bk st a N o st':=by
 have plain:(if ig o.op=true then (quiet P call o st).map (st.made o.dst) else effect P o st)=some st'→jK P base w Pr bk st a N o st':=fun h=>by
  split at h
  · simp only [Option.map_eq_some_iff] at h
    obtain ⟨m,hm,rfl⟩:=h
    exact EY I hN (AS hC I hm)
  · exact EV I hN h
 unfold lf at h
 split at h
 · rename_i f vs hc
   split at h
   · exact KU hC I hN hc h
   · split at h
     · exact Mf hC I hN h
     · exact plain h
 · exact plain h
structure iG (F:Fence):Prop where
 fn:∀f,F.fn f
 depth:F.depth=none
 calls:∀(n:Nat) (P:Program) (f:FuncId) (args:Array Value) (w:World) (R:Ending→World→Prop),Calls P f args w R→CallsIn F n P f args w R
 rows:∀(n:Nat) (P:Program) (row:String) (args:Array Value) (w:World) (R:Value→World→Prop),Rows P row args w R→RowsIn F n P row args w R
theorem o7 {n:Nat} {row:String} {args:Array Value} {R:Value→World→Prop} (h:Rows P row args w R):RowsIn Fence.wide n P row args w R:=
 fun c cs _=>let ⟨v,w',r,s⟩:=h c cs;⟨v,w',r,stepsIn_wide.2 s⟩
theorem jO:iG Fence.wide:=⟨fun _=>trivial,rfl,fun _ _ _ _ _ _ h=>callsIn_wide.2 h,fun _ _ _ _ _ _ h=>o7 h⟩
theorem uT (l:Nat):iG (Fence.wide.inRound l):=⟨fun _=>trivial,rfl,fun _ _ _ _ _ _ h=>CallsIn.inRound l (callsIn_wide.2 h),fun _ _ _ _ _ _ h=>o7 h⟩
theorem mE {F:Fence} (E:iG F) {n:Nat} {o:Oper} (rD:∀c,o.op≠ .defer c) {K:Act→World→Prop} {Q:Exit→Act→World→Prop} (h:o.wp P a w K Q):o.wpIn F n P a w K Q:=by
 refine ⟨fun f _=>E.fn f, ?_⟩
 rw [Oper.semAt_plain F _ _ rD]
 unfold Oper.wp at h
 generalize (execOp a.eval o).run P w=r at h
 have hd:F.depth.isSome=true→1≤n:=fun h=>by rw [E.depth] at h;simp at h
 cases r with
 |ok x w'=>
  cases x with
  |value v=>exact h
  |skip=>exact h
  |defer d=>exact h
  |enter f args=>exact ⟨hd,E.calls _ _ _ _ _ _ h⟩
  |row r args=>exact ⟨hd,E.rows _ _ _ _ _ _ h⟩
  |_=>exact h.elim
 |halt x w'=>cases x<;>first|exact h|exact h.elim
theorem jZ {call:Cl} {o:Oper} {s:St} (h:lf P call o st=some s):∀c,o.op≠ .defer c:=by
 intro c ho
 simp [lf,kF,ho,ig,effect] at h
def Good (base:Nat) (w0:World) (aN:aC) (N:Nat) (aS:ew) (st:St) (a:Act) (w:World):Prop:=
 ∃Pr bk,Inv base w Pr bk st a N∧Below base w0 w∧(∀b o,b<base→Pr b o→aN b o)∧KO w0 w∧(∀k b,aS.k k=some b→bk (.bx k)=b)∧(∀b o v,aN b o→w0.cell? ⟨b,o,none⟩=some v→Pr b o∧w.cell? ⟨b,o,none⟩=some v)∧∀ds,aS.ds=some ds→a.defers=ds
theorem Good.step {w0:World} {aN:aC} {st':St} (hG:Below base w0 w∧(∀b o,b<base→Pr b o→aN b o)∧KO w0 w∧(∀k b,aS.k k=some b→bk (.bx k)=b)∧(∀b o v,aN b o→w0.cell? ⟨b,o,none⟩=some v→Pr b o∧w.cell? ⟨b,o,none⟩=some v)∧∀ds,aS.ds=some ds→a.defers=ds) {o:Oper} (fo:∀d,o.dst=some d→aS.k d=none) (h:jK P base w Pr bk st a N o st') {Q:Exit→Act→World→Prop} {K:Act→World→Prop}
  (hK:∀a' w',Good base w0 aN N aS st' a' w'→K a' w'):o.wp P a w K Q:=
 h K Q fun a' w' aD aQ hI hb hk hp ho hbk hdf=>hK a' w' ⟨aD,aQ,hI,hG.1.trans hb,fun b o hlt h=>hG.2.1 b o hlt (hp b o hlt h),hG.2.2.1.trans ho,⟨fun k b e=>(hbk k (fun e2=>by rw [fo k e2] at e;simp at e)).trans (hG.2.2.2.1 k b e),fun b o v h1 h2=>by
   obtain ⟨h3,h4⟩:=hG.2.2.2.2.1 b o v h1 h2
   exact ⟨hk.pr b o h3,(hk.cell b o h3).trans h4⟩,fun ds e=>hdf.trans (hG.2.2.2.2.2 ds e)⟩⟩
theorem Good.less {w0:World} {aN:aC} {st':St} (h:Good base w0 aN N aS st a w) (k:∀Pr bk,Inv base w Pr bk st a N→Inv base w Pr bk st' a N):Good base w0 aN N aS st' a w:=by
 obtain ⟨Pr,bk,I,h1⟩:=h
 exact ⟨Pr,bk,k Pr bk I,h1⟩
theorem lN (I:Inv base w Pr bk st a N) {ops:Array Oper} {o:Oper} {b:Bool} (h:eo ops.toList o st=some b):Region.wanted o (yielded ops a.tmps)=b:=by
 unfold eo at h
 unfold Region.wanted
 cases hg:o.guard with
 |none=>rw [hg] at h;simpa using h
 |some g=>
  obtain ⟨j,want⟩:=g
  simp only [hg,Option.bind_eq_some_iff] at h
  obtain ⟨t,⟨oj,hj,hd⟩,h⟩:=h
  have hj':ops[j]? =some oj:=by simpa using hj
  simp only [yielded,hj',Option.bind_some,hd]
  split at h
  · rename_i c hl
    obtain ⟨v,hv,hr⟩:=I.slots t _ hl
    cases hr
    simp only [hv]
    simp only [Option.some.injEq] at h
    subst h
    cases c<;>cases want<;>rfl
  · rename_i hl
    obtain ⟨v,hv,hr⟩:=I.slots t _ hl
    cases hr with
    |aG hr=>
     simp only [hv]
     simp only [Option.some.injEq] at h
     subst h;rfl
  · simp at h
theorem xw (I:Inv base w Pr bk st a N) {o:Oper} (hN:∀d,o.dst=some d→d<N):∃aQ,Inv base w Pr aQ (st.put o.dst fN) (a.put o.dst undef) N∧∀k,aQ (.bx k)=bk (.bx k):=by
 cases hd:o.dst with
 |none=>exact ⟨bk,I,fun _=>rfl⟩
 |some d=>
  rw [eV]
  exact I.iC (hN d hd) (bA (Rp.aG .nil))
theorem su {F:Fence} (E:iG F) (n:Nat) {call:Cl} (hC:aI P call) {w0:World} {aN:aC} {ops:Array Oper} {Q:Exit→Act→World→Prop} {st':St} (hQ:∀a' w',Good base w0 aN N aS st' a' w'→Q .normal a' w'):
  ∀(l:List Oper) (st:St) (a:Act) (w:World),(∀o∈l,∀d,o.dst=some d→d<N∧aS.k d=none)→Good base w0 aN N aS st a w→og (lf P call) ops.toList l st=some st'→wpListIn F n P ops Q l a w
 |[],st,a,w,hN,hG,h=>by
  simp only [og,Option.some.injEq] at h;subst h
  exact hQ a w hG
 |o::l,st,a,w,hN,hG,h=>by
  obtain ⟨Pr,bk,I,g9⟩:=hG
  simp only [og,Option.bind_eq_some_iff] at h
  obtain ⟨b,hb,h⟩:=h
  have hw:=lN (ops:=ops) I hb
  refine wpListIn_step fun K hK=> ?_
  cases b with
  |true=>
   simp only [Option.bind_eq_some_iff] at h
   obtain ⟨s1,hs1,h⟩:=h
   rw [if_pos hw]
   exact mE E (jZ hs1) (Good.step g9 (fun d hd=>(hN o (by simp) d hd).2) (uH hC I (fun d hd=>(hN o (by simp) d hd).1) hs1) fun a' w' VF=>hK a' w' (su E n hC hQ l s1 a' w' (fun o' ho'=>hN o' (List.mem_cons_of_mem _ ho')) VF h))
  |false=>
   simp only at h
   rw [if_neg (by rw [hw];simp)]
   obtain ⟨aQ,I',hbk⟩:=xw I (fun d hd=>(hN o (by simp) d hd).1)
   exact ⟨fun f _=>E.fn f,hK _ _ (su E n hC hQ l _ _ _ (fun o' ho'=>hN o' (List.mem_cons_of_mem _ ho')) ⟨Pr,aQ,I',g9.1,g9.2.1,g9.2.2.1,fun k b e=>(hbk k).trans (g9.2.2.2.1 k b e),g9.2.2.2.2.1,fun ds e=>by
    have:=g9.2.2.2.2.2 ds e
    rw [←this];cases o.dst<;>rfl⟩ h)⟩
end
end Go.Proofs.YtibbgjafjhcemaaDoor.Cul
namespace Go.Proofs.YtibbgjafjhcemaaDoor.Cul
open Go Go.RowKit
section
variable {P:Program} {base:Nat} {w:World} {Pr:aC} {bk:Key→Nat} {st:St} {a:Act} {N:Nat} {aS:ew}
theorem Inv.Mc (I:Inv base w Pr bk st a N) {t sz n:Nat} {cs:List PV} (heq:look st.sl t=some (.ex sz n cs)):
  Inv base w Pr bk { st with sl:=(bH st.sl t).map (dG t)} a N∧∀x,live { st with sl:=(bH st.sl t).map (dG t)} x→bk x≠bk (.sx t):=by
 have hlk:∀u,look (bH st.sl t) u=if u=t then none else look st.sl u:=bD st.sl t
 have zX:aJ st.gr (.s t)=none:=by
  cases e:aJ st.gr (.s t) with
  |none=>rfl
  |some z=>obtain ⟨o',n',cap',cs',h1,_⟩:=I.gQ t z e;rw [heq] at h1;simp at h1
 constructor
 · refine I.less (fun u av h=> ?_) (fun k cs h=>h) (fun q z h=>⟨h, ?_⟩) (fun t q h=>h) (fun u x h hx=> ?_) (fun _ _ _ _ _ _ e=>e)
   · simp only at h
     rw [bT (dG t) (fun _ av=>if bu t av then .dead else av) (fun _=>rfl),hlk] at h
     by_cases e:u=t
     · simp [e] at h
     · rw [if_neg e] at h
       cases hq:look st.sl u with
       |none=>simp [hq] at h
       |some y=>
        simp only [hq,Option.map_some,Option.some.injEq] at h
        split at h
        · obtain ⟨v,hv,_⟩:=I.slots u y hq;exact .inr ⟨h.symm,v,hv⟩
        · exact .inl (by rw [h])
   · cases q with
     |s u=>
      simp only
      rw [bT (dG t) (fun _ av=>if bu t av then .dead else av) (fun _=>rfl),hlk]
      have e:u≠t:=fun e=>by subst e;rw [zX] at h;simp at h
      rw [if_neg e]
      obtain ⟨o',n',cap',cs',h1,_⟩:=I.gQ u z h
      rw [h1];rfl
     |c k o=>rfl
   · simp only at h
     obtain ⟨sz',n',cs',hx⟩:=hx
     have FB:x≠t:=by
      intro e;subst e
      rcases h with h|⟨off,h⟩<;>
      · rw [bT (dG x) (fun _ av=>if bu x av then .dead else av) (fun _=>rfl)] at h
        cases hq:look (bH st.sl x) u with
        |none=>simp [hq] at h
        |some y=>simp only [hq,Option.map_some,Option.some.injEq] at h;split at h<;>simp_all [bu]
     refine ⟨sz',n',cs', ?_⟩
     simp only
     rw [bT (dG t) (fun _ av=>if bu t av then .dead else av) (fun _=>rfl),hlk,if_neg FB,hx];rfl
 · intro x hx e
   have Ft:live st x∧x≠ .sx t:=by
    cases x with
    |bx k=>exact ⟨hx,by simp⟩
    |cx k o=>exact ⟨hx,by simp⟩
    |sx u=>
     have Ac:u≠t:=by
      intro e2;subst e2
      rcases hx with ⟨_,_,_,hx⟩|⟨z,hx⟩
      · simp only at hx
        rw [bT (dG u) (fun _ av=>if bu u av then .dead else av) (fun _=>rfl),hlk,if_pos rfl] at hx;simp at hx
      · simp only at hx;rw [zX] at hx;simp at hx
     refine ⟨?_,by simpa using Ac⟩
     rcases hx with ⟨sz',n',cs',hx⟩|hx
     · simp only at hx
       rw [bT (dG t) (fun _ av=>if bu t av then .dead else av) (fun _=>rfl),hlk,if_neg Ac] at hx
       cases hq:look st.sl u with
       |none=>simp [hq] at hx
       |some y=>simp only [hq,Option.map_some,Option.some.injEq] at hx;split at hx<;>simp_all [live,ee]
     · exact .inr hx
   exact Ft.2 (I.inj x (.sx t) Ft.1 (.inl ⟨sz,n,cs,heq⟩) e)
theorem uv {a:Act} {t:Nat} {v:Value} (h:a.tmps[t]? =some v):a.put (some t) v=a:=by
 have:a.tmps.setIfInBounds t v=a.tmps:=by
  apply Array.ext_getElem?
  intro i
  by_cases e:t=i
  · subst e
    have hlt:t<a.tmps.size:=(Array.getElem?_eq_some_iff.1 h).1
    rw [Array.getElem?_setIfInBounds_self_of_lt hlt,h]
  · rw [Array.getElem?_setIfInBounds_ne e]
 simp [Act.put,this]
theorem C1 (w:World) (g:Nat) (h:∃c T fz,w.heap[g]? =some (.cells c T fz)):Wr w w g:=⟨rfl,rfl,rfl,rfl,fun _ _=>rfl,h,fun c T fz e=>⟨c,e,rfl⟩⟩
theorem rJ (gr:List (Pl×Nat)) (p q:Pl):aJ (gr.filter (fun x=>x.1≠p)) q=if q=p then none else aJ gr q:=by
 have:=ek (fun x=>decide (x≠p)) gr q
 simp only [ne_eq,decide_not,Bool.not_eq_eq_eq_not,Bool.not_true,decide_eq_false_iff_not,ite_not] at this ⊢
 exact this
theorem iP (st:St) (t k u:Nat):look (st.ep t k).sl u=if u=t then none else (look st.sl u).map fun av=>if iD k av then av else .dead:=by
 simp only [St.ep]
 rw [bT (JW k) (fun _ av=>if iD k av then av else .dead) (fun _=>rfl),bD]
 split<;>rfl
theorem Inv.ep (I:Inv base w Pr bk st a N) {t k off sz n:Nat} (heq:look st.sl t=some (.bs k off sz n)):Inv base w Pr bk (st.ep t k) a N:=by
 refine I.less (fun u av h=> ?_) (fun j cs h=> ?_) (fun p z h=> ?_) (fun u q h=> ?_) (fun u x h hx=> ?_) (fun u av j h hj cs e=> ?_)
 · rw [iP] at h
   split at h
   · simp at h
   · cases hq:look st.sl u with
     |none=>simp [hq] at h
     |some y=>
      simp only [hq,Option.map_some,Option.some.injEq] at h
      split at h
      · exact .inl (by rw [h])
      · obtain ⟨v,hv,_⟩:=I.slots u y hq;exact .inr ⟨h.symm,v,hv⟩
 · simp only [St.ep] at h
   rw [bD] at h
   split at h
   · simp at h
   · exact h
 · have h0:=h
   simp only [St.ep] at h
   rw [rJ,iO] at h
   split at h
   · simp at h
   · rename_i Wl
     split at h
     · rename_i hnb
       refine ⟨h, ?_⟩
       cases p with
       |s u=>
        have Ac:u≠t:=fun e=>Wl (by rw [e])
        obtain ⟨o,m,cap,cs,e1,_⟩:=I.gQ u z h
        show look (st.ep t k).sl u=look st.sl u
        rw [iP,if_neg Ac,e1];rfl
       |c j o=>
        have oQ:j≠k:=by simpa [Pl.eK] using hnb
        show look (bH st.bx k) j=look st.bx j
        rw [bD,if_neg oQ]
     · simp at h
 · simp only [St.ep] at h
   rw [bT (mB k) (fun _ x=>x.bind fun p=>if p.eK k then some p else none) (fun _=>rfl),bD] at h
   split at h
   · simp at h
   · cases hm:look st.tg u with
     |none=>simp [hm] at h
     |some p=>
      simp only [hm,Option.map_some,Option.some.injEq,Option.bind_eq_some_iff] at h
      obtain ⟨p',rfl,h⟩:=h
      split at h
      · simp only [Option.some.injEq] at h;rw [h]
      · simp at h
 · obtain ⟨sz',n',cs',e⟩:=hx
   have FB:x≠t:=fun e2=>by subst e2;rw [heq] at e;simp at e
   exact ⟨sz',n',cs',by rw [iP,if_neg FB,e];rfl⟩
 · have oQ:j≠k:=by
     rw [iP] at h
     split at h
     · simp at h
     · cases hq:look st.sl u with
       |none=>simp [hq] at h
       |some y=>
        simp only [hq,Option.map_some,Option.some.injEq] at h
        split at h
        · rename_i hnp
          subst h
          cases y<;>simp_all [oA,iD]
        · subst h;simp [oA] at hj
   show look (bH st.bx k) j=some cs
   rw [bD,if_neg oQ];exact e
theorem Inv.freeze (g:Bool) (I:Inv base w Pr bk st a N) {t k off sz n:Nat} {cs:List PV} (heq:look st.sl t=some (.bs k off sz n)) (hk:look st.bx k=some cs):
  ∃aD aQ,Inv base w aD aQ ((st.ep t k).made (some t) { v:= .pv (.sl sz n ((cs.drop off).take (n* sz))),gr:=wY g off sz}) a N∧Kp w Pr w aD∧(∀b o,b<base→aD b o→Pr b o)∧∀k,aQ (.bx k)=bk (.bx k):=by
 have I2:=I.ep heq
 obtain ⟨v,cT,o,cap,cs',c,T,h1,h0,hk',hle,hz,hn,hb,hsz⟩:=I.slots t _ heq
 rw [hk] at hk';cases hk'
 obtain ⟨⟨T2,c2,vs,ck,hpre,hrl,hone⟩,hfree⟩:=I.boxes k cs hk
 rw [hb] at ck;cases ck
 have hown:=I.own (.bx k) ⟨cs,hk⟩
 have No:t<N:=by rw [←I.size];exact (Array.getElem?_eq_some_iff.1 cT).1
 have hlen:=hrl.length
 have hnl:∀x,live (st.ep t k) x→bk x≠bk (.bx k):=by
  intro x hx e
  have hl:live st x∧x≠ .bx k:=by
   cases x with
   |bx j=>
    obtain ⟨dL,h⟩:=hx
    have h':look (bH st.bx k) j=some dL:=h
    rw [bD] at h'
    split at h'
    · simp at h'
    · rename_i hj;exact ⟨⟨dL,h'⟩,by simpa using hj⟩
   |sx u=>
    refine ⟨?_,by simp⟩
    rcases hx with ⟨sz',n',cs',h⟩|⟨z,h⟩
    · rw [iP] at h
      split at h
      · simp at h
      · cases hq:look st.sl u with
        |none=>simp [hq] at h
        |some y=>
         simp only [hq,Option.map_some,Option.some.injEq] at h
         split at h
         · subst h;exact .inl ⟨sz',n',cs',hq⟩
         · simp at h
    · simp only [St.ep] at h
      rw [rJ,iO] at h
      split at h
      · simp at h
      · split at h
        · exact .inr ⟨z,h⟩
        · simp at h
   |cx j o=>
    refine ⟨?_,by simp⟩
    obtain ⟨z,h⟩:=hx
    simp only [St.ep] at h
    rw [rJ,iO] at h
    split at h
    · simp at h
    · split at h
      · exact ⟨z,h⟩
      · simp at h
  exact hl.2 (I.inj x (.bx k) hl.1 ⟨cs,hk⟩ e)
 obtain ⟨aD,fF⟩:∃aD:aC,∀b' o',aD b' o'↔(Pr b' o'∨(b'=bk (.bx k)∧o≤o'∧o'<o+n* sz)):=⟨fun b' o'=>_,fun _ _=>Iff.rfl⟩
 have hK:Kp w Pr w aD:=⟨fun b o h=>(fF b o).2 (.inl h),fun _ _ _=>rfl⟩
 have I3:=I2.xB (C1 w (bk (.bx k)) ⟨c,T,_,hb⟩) hown.2 hnl hK (fun b' o' h hne=>((fF b' o').1 h).resolve_right (fun h=>hne h.1))
 have hm:dy base w aD bk (st.ep t k) a { v:= .pv (.sl sz n ((cs.drop off).take (n* sz))),gr:=wY g off sz} v:=by
  refine ⟨fun _ _=> ?_,fun _ _ _ h=>by simp at h,fun z dX=> ?_,fun q h=>by simp at h⟩
  · rw [h1]
    show Rp w aD _ _
    by_cases hn0:n=0
    · subst hn0
      simpa using Rp.sl (w:=w) (Pr:=aD) (sz:=sz) (n:=0) (cap:=cap) (b:=bk (.bx k)) (o:=o) .nil (by simp) (by simp) (Nat.zero_le _) (fun j v hj=>by simp at hj) (fun i hi=>by simp at hi)
    · obtain rfl:o=off:=h0.resolve_right (fun h=>hn0 h.1)
      have hH:=iV (dF (iW hb hpre) o) (n* sz)
      rw [Nat.zero_add] at hH
      exact .sl (aO.mono hK ((hrl.drop o).take (n* sz))) (fun v hv=>hone v (List.mem_of_mem_drop (List.mem_of_mem_take hv))) (by simp;omega) hn hH (fun i hi=>(fF _ _).2 (.inr ⟨rfl,by omega,by simp at hi;omega⟩))
  · cases g with
    |false=>simp [wY] at dX
    |true=>
    simp only [wY] at dX
    split at dX
    · rename_i hoff
      simp only [Option.some.injEq] at dX;subst dX
      have Wh:o=0:=by rcases h0 with h0|⟨_,h0⟩<;>omega
      refine ⟨bk (.bx k),o,n,cap,_,rfl,h1,⟨hz,hn,⟨c,T,hb,hsz⟩,fun o' ho=> ?_⟩,Wh,hown.1,hown.2,hnl⟩
      rcases (fF _ _).1 ho with ho|ho
      · exact absurd ho (hfree o')
      · omega
    · simp at dX
 obtain ⟨aQ,I4,hbk⟩:=I3.iC No hm
 rw [uv cT] at I4
 exact ⟨aD,aQ,I4,hK,fun b o' hlt h=>((fF b o').1 h).resolve_right (fun h=>by omega),hbk⟩
theorem Inv.gh (g:Bool) (I:Inv base w Pr bk st a N) (t:Nat):∃aD aQ,Inv base w aD aQ (st.gh g t) a N∧Kp w Pr w aD∧(∀b o,b<base→aD b o→Pr b o)∧∀k,aQ (.bx k)=bk (.bx k):=by
 unfold St.gh
 split
 · rename_i sz n cs heq
   obtain ⟨I2,hfree⟩:=I.Mc heq
   obtain ⟨v,cT,o,cap,vs,h1,h2,h3,h4,h5,h6,h7⟩:=I.slots t _ heq
   have hown:=I.own (.sx t) (.inl ⟨sz,n,cs,heq⟩)
   have No:t<N:=by rw [←I.size];exact (Array.getElem?_eq_some_iff.1 cT).1
   have hlen:=h2.length
   obtain ⟨aD,fF⟩:∃aD:aC,∀b' o',aD b' o'↔(Pr b' o'∨(b'=bk (.sx t)∧o≤o'∧o'<o+n* sz)):=⟨fun b' o'=>_,fun _ _=>Iff.rfl⟩
   have hK:Kp w Pr w aD:=⟨fun b o h=>(fF b o).2 (.inl h),fun _ _ _=>rfl⟩
   have I3:=I2.xB (C1 w (bk (.sx t)) (by obtain ⟨c,T,e,_⟩:=h6.there;exact ⟨c,T,_,e⟩)) hown.2 hfree hK (fun b' o' h hne=>((fF b' o').1 h).resolve_right (fun h=>hne h.1))
   have hm:dy base w aD bk { st with sl:=(bH st.sl t).map (dG t)} a { v:= .pv (.sl sz n cs)} v:=by
    refine bA ?_
    rw [h1]
    exact .sl (aO.mono hK h2) h3 h4 h6.le h5 (fun i hi=>(fF _ _).2 (.inr ⟨rfl,by omega,by omega⟩))
   obtain ⟨aQ,I4,hbk⟩:=I3.iC No hm
   rw [uv cT] at I4
   exact ⟨aD,aQ,I4,hK,fun b o' hlt h=>((fF b o').1 h).resolve_right (fun h=>by omega),hbk⟩
 · rename_i k off sz n heq
   split
   · rename_i cs hk
     exact I.freeze g heq hk
   · exact ⟨Pr,bk,I,Kp.refl _ _,fun _ _ _ h=>h,fun _=>rfl⟩
 · exact ⟨Pr,bk,I,Kp.refl _ _,fun _ _ _ h=>h,fun _=>rfl⟩
theorem Good.gh (g:Bool) {w0:World} {aN:aC} (h:Good base w0 aN N aS st a w) (t:Nat):Good base w0 aN N aS (st.gh g t) a w:=by
 obtain ⟨Pr,bk,I,hb,hp,ho,fo,hkc,hdf⟩:=h
 obtain ⟨aD,aQ,I',hk,hp',hbk⟩:=I.gh g t
 exact ⟨aD,aQ,I',hb,fun b o hlt h=>hp b o hlt (hp' b o hlt h),ho,fun k b e=>(hbk k).trans (fo k b e),fun b o v h1 h2=>by
  obtain ⟨h3,h4⟩:=hkc b o v h1 h2
  exact ⟨hk.pr b o h3,h4⟩,hdf⟩
theorem Good.v9 {w0:World} {aN:aC}:∀(l:List Nat) {st:St},Good base w0 aN N aS st a w→Good base w0 aN N aS (l.foldl St.pN st) a w
 |[],_,h=>h
 |t::l,_,h=>Good.v9 l (h.gh false t)
theorem vq (l:List (Nat×AV)) (t:Nat):∀ks:List Nat,look (l9 l ks) t=(if ks.contains t then look l t else none).map fun av=>if isRef av then .dead else av
 |[]=>by simp [l9,look]
 |k::ks=>by
  have ih:=vq l t ks
  simp only [l9]
  by_cases e:k=t
  · subst e
    cases h:look l k with
    |none=>simp only [ih];split<;>simp_all
    |some v=>simp [look,Ks]
  · have e2:((k::ks).contains t)=ks.contains t:=by
      have:(t==k)=false:=by simpa using fun h=>e h.symm
      rw [List.contains_cons,this,Bool.false_or]
    rw [e2]
    cases h:look l k with
    |none=>simp only [ih]
    |some v=>simp only [look];rw [if_neg e];exact ih
theorem vp (l:List (Nat×List PV)) (t:Nat):∀ks:List Nat,look (sF l ks) t=if ks.contains t then look l t else none
 |[]=>by simp [sF,look]
 |k::ks=>by
  have ih:=vp l t ks
  simp only [sF]
  by_cases e:k=t
  · subst e
    cases h:look l k with
    |none=>simp only [ih];split<;>simp_all
    |some v=>simp [look]
  · have e2:((k::ks).contains t)=ks.contains t:=by
      have:(t==k)=false:=by simpa using fun h=>e h.symm
      rw [List.contains_cons,this,Bool.false_or]
    rw [e2]
    cases h:look l k with
    |none=>simp only [ih]
    |some v=>simp only [look];rw [if_neg e];exact ih
theorem FP (l m:List (Pl×Nat)) (p:Pl):aJ (l++m) p=(aJ l p).or (aJ m p):=by
 induction l with
 |nil=>simp [aJ]
 |cons x l ih=>
  obtain ⟨k,v⟩:=x
  simp only [List.cons_append,aJ]
  split
  · simp
  · exact ih
theorem tA (l:List (Pl×Nat)) (p:Pl):∀ks:List Nat,aJ (vk l ks) p=if p.kept ks then aJ l p else none
 |[]=>by cases p<;>simp [vk,aJ,Pl.kept]
 |k::ks=>by
  have ih:=tA l p ks
  simp only [vk,FP,ih]
  rw [ek (Pl.of k) l p]
  cases p with
  |s t=>
   by_cases e:t=k
   · subst e
     cases h:aJ l (.s t)<;>simp [Pl.of,Pl.kept]
   · have:(t==k)=false:=by simpa using e
     simp [Pl.of,Pl.kept,e]
  |c t o=>
   by_cases e:t=k
   · subst e
     cases h:aJ l (.c t o)<;>simp [Pl.of,Pl.kept]
   · have:(t==k)=false:=by simpa using e
     simp [Pl.of,Pl.kept,e]
theorem kY {ks:List Nat}:∀{l:List Nat} {k:Nat},k∈l→ks.contains k=false→k∈oV ks l
 |[],k,h,_=>by simp at h
 |a::l,k,h,hk=>by
  simp only [oV]
  split
  · rename_i hc
    rcases List.mem_cons.1 h with rfl|h
    · rw [hk,Bool.false_or] at hc
      exact kY (by simpa using hc) hk
    · exact kY h hk
  · rcases List.mem_cons.1 h with rfl|h
    · simp
    · exact List.mem_cons_of_mem _ (kY h hk)
theorem vN:∀{l:List (Nat×AV)} {t j:Nat} {av:AV},look l t=some av→j∈oA av→j∈refsOf l
 |[],t,j,av,h,_=>by simp [look] at h
 |(k,v)::l,t,j,av,h,hj=>by
  simp only [look] at h
  simp only [refsOf,List.mem_append]
  split at h
  · simp only [Option.some.injEq] at h;subst h;exact .inl hj
  · exact .inr (vN h hj)
theorem vl {st:St} {ks:List Nat} {k:Nat} (h:ks.contains k=true):(kI st ks).contains k=true:=by
 simp only [kI,List.contains_eq_mem,List.mem_append,decide_eq_true_eq] at h ⊢
 exact .inl h
theorem Bz {st:St} {ks:List Nat} {t j:Nat} {av:AV} (h:look (st.bK ks).sl t=some av) (hj:j∈oA av):(kI st ks).contains j=true:=by
 have h1:=vN (l:=l9 st.sl ks) h hj
 cases hc:ks.contains j with
 |true=>exact vl hc
 |false=>
  have:=kY (ks:=ks) (l:=refsOf (l9 st.sl ks)++(st.bx.map (·.1)).filter (fun k=>gk≤k)) (List.mem_append_left _ h1) hc
  simp only [kI,List.contains_eq_mem,List.mem_append,decide_eq_true_eq]
  exact .inr this
theorem Good.bK {w0:World} {aN:aC} (h:Good base w0 aN N aS st a w) (ks:List Nat):Good base w0 aN N aS (st.bK ks) a w:=by
 refine h.less fun Pr bk I=> ?_
 have hl:∀t,look (st.bK ks).sl t=(if ks.contains t then look st.sl t else none).map fun av=>if isRef av then .dead else av:=fun t=>vq st.sl t ks
 have hb:∀k,look (st.bK ks).bx k=if (kI st ks).contains k then look st.bx k else none:=fun k=>vp st.bx k (kI st ks)
 have hg:∀p,aJ (st.bK ks).gr p=if p.kept ks then aJ st.gr p else none:=fun p=>tA st.gr p ks
 refine I.less (fun t av ht=> ?_) (fun k cs hk=> ?_) (fun p z hz=> ?_) (fun t q ht=>by simp [St.bK,look] at ht) (fun t u ht _=> ?_) (fun t av j ht hj cs e=> ?_)
 · rw [hl] at ht
   split at ht
   · cases hq:look st.sl t with
     |none=>simp [hq] at ht
     |some x=>
      simp only [hq,Option.map_some,Option.some.injEq] at ht
      split at ht
      · obtain ⟨v,hv,_⟩:=I.slots t x hq;exact .inr ⟨ht.symm,v,hv⟩
      · exact .inl (by rw [ht])
   · simp at ht
 · rw [hb] at hk;split at hk
   · exact hk
   · simp at hk
 · rw [hg] at hz
   split at hz
   · rename_i hkp
     refine ⟨hz, ?_⟩
     cases p with
     |s t=>
      simp only [Pl.kept] at hkp
      obtain ⟨o,n,cap,cs,h1,_⟩:=I.gQ t z hz
      show look (st.bK ks).sl t=look st.sl t
      rw [hl,if_pos hkp,h1];rfl
     |c k o=>
      simp only [Pl.kept] at hkp
      show look (st.bK ks).bx k=look st.bx k
      rw [hb,if_pos (vl hkp)]
   · simp at hz
 · exfalso
   rcases ht with ht|⟨off,ht⟩<;>
   · rw [hl] at ht
     split at ht
     · cases hq:look st.sl t with
       |none=>simp [hq] at ht
       |some x=>simp only [hq,Option.map_some,Option.some.injEq] at ht;split at ht<;>simp_all [isRef]
     · simp at ht
 · rw [hb,if_pos (Bz ht hj)];exact e
end
end Go.Proofs.YtibbgjafjhcemaaDoor.Cul
namespace Go.Proofs.YtibbgjafjhcemaaDoor.Cul
open Go Go.RowKit
structure oe (o:Oper) (st st':St):Prop where
 ev:∀x∈o.op.operands.toList,∀av,st.ev x=some av→(∀cs s,av≠ .bX cs s)→st'.ev x=some av
 ex:∀u sz n cs,look st.sl u=some (.ex sz n cs)→look st'.sl u=some (.ex sz n cs)
 bx:st'.bx=st.bx
 gr:st'.gr=st.gr
 tg:∀t,Operand.tmp t∈o.op.operands.toList→st'.tag t=st.tag t
section
variable {P:Program} {call:Cl} {o:Oper} {st st':St}
theorem Gd {x:Operand} (h:∀av,st.ev x=some av→(∀cs s,av≠ .bX cs s)→st'.ev x=some av) {p:PV} (hp:st.pv x=some p):st'.pv x=some p:=by
 have:=h _ (yU hp) (by simp)
 simp [St.pv,this]
theorem oe.pv (S:oe o st st') {x:Operand} (hx:x∈o.op.operands.toList) {p:PV} (hp:st.pv x=some p):st'.pv x=some p:=Gd (S.ev x hx) hp
theorem oe.val (S:oe o st st') {x:Operand} (hx:x∈o.op.operands.toList) {v:Value} (h:st.val x=some v):st'.val x=some v:=by
 simp only [St.val,Option.bind_eq_some_iff] at h ⊢
 obtain ⟨p,h1,h2⟩:=h
 exact ⟨p,S.pv hx h1,h2⟩
theorem oe.int (S:oe o st st') {x:Operand} (hx:x∈o.op.operands.toList) {n:Int} (h:(st.pv x).bind cn=some n):(st'.pv x).bind cn=some n:=by
 simp only [Option.bind_eq_some_iff] at h ⊢
 obtain ⟨p,h1,h2⟩:=h
 exact ⟨p,S.pv hx h1,h2⟩
theorem nk:∀(l:List (Nat×Operand)) (r:List (Nat×PV)),(∀x∈l.map (·.2),∀av,st.ev x=some av→(∀cs s,av≠ .bX cs s)→st'.ev x=some av)→partsOf st l=some r→partsOf st' l=some r
 |[],r,h,hp=>by simpa [partsOf] using hp
 |(i,x)::l,r,h,hp=>by
  simp only [partsOf,Option.bind_eq_some_iff] at hp ⊢
  obtain ⟨p,h1,h2⟩:=hp
  refine ⟨p,Gd (h x (by simp)) h1, ?_⟩
  split at h2
  · simp at h2
  · rename_i hn
    rw [if_neg hn]
    simp only [Option.map_eq_some_iff] at h2 ⊢
    obtain ⟨q,h3,h4⟩:=h2
    exact ⟨q,nk l q (fun y hy=>h y (by simp at hy ⊢;exact .inr hy)) h3,h4⟩
theorem qR (h:st'.bx=st.bx):∀l,dK st' l=dK st l
 |[]=>rfl
 | .pv p::l=>by simp [dK,qR h l]
 | .bp k off::l=>by simp [dK,qR h l,h]
theorem zl (h:st'.bx=st.bx):∀av,st'.eN av=st.eN av
 | .pv p=>rfl
 | .bp k off=>by simp [St.eN,h]
 | .cl f caps=>by simp [St.eN,qR h]
 | .ex .. =>rfl
 | .xr .. =>rfl
 | .xe .. =>rfl
 | .bX .. =>rfl
 | .dead=>rfl
 | .bs .. =>by simp [St.eN,h]
 | .mv .. =>rfl
 | .tg .. =>rfl
theorem oh (hb:st'.bx=st.bx):∀(l:List Operand) (r:List PV),(∀x∈l,∀av,st.ev x=some av→(∀cs s,av≠ .bX cs s)→st'.ev x=some av)→eB st l=some r→eB st' l=some r∧∀x∈l,st'.ev x=st.ev x
 |[],r,h,hp=>⟨by simpa [eB] using hp,by simp⟩
 |x::l,r,h,hp=>by
  simp only [eB,Option.bind_eq_some_iff,Option.map_eq_some_iff] at hp ⊢
  obtain ⟨p,⟨av,h0,h1⟩,q,h3,h4⟩:=hp
  have hx:=h x (by simp) av h0 (fun cs s e=>by subst e;simp [St.eN] at h1)
  obtain ⟨i1,i2⟩:=oh hb l q (fun y hy=>h y (by simp;exact .inr hy)) h3
  refine ⟨⟨p,⟨av,hx,by rw [zl hb];exact h1⟩,q,i1,h4⟩,fun y hy=> ?_⟩
  rcases List.mem_cons.1 hy with rfl|hy
  · rw [hx,h0]
  · exact i2 y hy
theorem nM:∀(l:List Operand) (r:List Cap),(∀x∈l,∀av,st.ev x=some av→(∀cs s,av≠ .bX cs s)→st'.ev x=some av)→eG st l=some r→eG st' l=some r
 |[],r,h,hp=>by simpa [eG] using hp
 |x::l,r,h,hp=>by
  simp only [eG] at hp ⊢
  have ih:=nM l
  split at hp
  · rename_i p heq
    rw [h x (by simp) _ heq (by simp)]
    simp only [Option.map_eq_some_iff] at hp ⊢
    obtain ⟨q,h3,h4⟩:=hp
    exact ⟨q,ih q (fun y hy=>h y (by simp;exact .inr hy)) h3,h4⟩
  · rename_i k off heq
    rw [h x (by simp) _ heq (by simp)]
    simp only [Option.map_eq_some_iff] at hp ⊢
    obtain ⟨q,h3,h4⟩:=hp
    exact ⟨q,ih q (fun y hy=>h y (by simp;exact .inr hy)) h3,h4⟩
  · simp at hp
theorem D5 (S:oe o st st') {m:Made} (h:quiet P call o st=some m):quiet P call o st'=some m:=by
 cases ho:o.op with
 |move x=>
  have hx:x∈o.op.operands.toList:=by simp [ho,Op.operands]
  simp only [quiet,ho] at h ⊢
  have key:=S.ev x hx
  have Fy:∀t,x= .tmp t→st'.tag t=st.tag t:=fun t e=>S.tg t (e ▸hx)
  cases he:st.ev x with
  |none=>rw [he] at h;cases x<;>simp at h
  |some av=>
   rw [he] at h
   cases av with
   |bX cs s=>cases x<;>simp at h
   |_=>
    rw [key _ he (by simp)]
    cases x with
    |tmp t=>simpa [S.gr,Fy t rfl] using h
    |_=>exact h
 |pick c x y=>
  simp only [quiet,ho,Option.bind_eq_some_iff] at h ⊢
  obtain ⟨v,hc,h⟩:=h
  refine ⟨v,S.val (by simp [ho,Op.operands]) hc, ?_⟩
  split at h
  · rename_i b
    simp only [Option.map_eq_some_iff] at h ⊢
    obtain ⟨p,hp,h⟩:=h
    refine ⟨p,S.pv ?_ hp,h⟩
    cases b<;>simp [ho,Op.operands]
  · simp at h
 |binOp op t x y u=>
  simp only [quiet,ho,Option.bind_eq_some_iff] at h ⊢
  obtain ⟨v,hc,v2,gE,h⟩:=h
  exact ⟨v,S.val (by simp [ho,Op.operands]) hc,v2,S.val (by simp [ho,Op.operands]) gE,h⟩
 |unOp op t x=>
  simp only [quiet,ho,Option.bind_eq_some_iff] at h ⊢
  obtain ⟨v,hc,h⟩:=h
  exact ⟨v,S.val (by simp [ho,Op.operands]) hc,h⟩
 |convert s d x=>
  simp only [quiet,ho] at h ⊢
  cases hp:st.pv x with
  |none=>rw [hp] at h;simp at h
  |some p=>rw [hp] at h;rw [S.pv (by simp [ho,Op.operands]) hp];exact h
 |fieldAddr s x f=>
  simp only [quiet,ho,Option.bind_eq_some_iff] at h ⊢
  obtain ⟨v,hc,h⟩:=h
  refine ⟨v,hc, ?_⟩
  have key:=S.ev x (by simp [ho,Op.operands])
  split at h
  · rename_i he;rw [key _ he (by simp)];exact h
  · rename_i he;rw [key _ he (by simp)];exact h
  · rename_i he;rw [key _ he (by simp)];exact h
  · simp at h
 |field s x f=>
  simp only [quiet,ho,Option.bind_eq_some_iff] at h ⊢
  obtain ⟨v,hc,h⟩:=h
  refine ⟨v,hc, ?_⟩
  cases hp:st.pv x with
  |none=>rw [hp] at h;simp at h
  |some p=>rw [hp] at h;rw [S.pv (by simp [ho,Op.operands]) hp];exact h
 |indexAddr t x i=>
  simp only [quiet,ho] at h ⊢
  rw [Option.bind_eq_some_iff] at h ⊢
  obtain ⟨n,hn,h⟩:=h
  refine ⟨n,S.int (by simp [ho,Op.operands]) hn, ?_⟩
  have key:=S.ev x (by simp [ho,Op.operands])
  split at h
  · rw [Option.bind_eq_some_iff] at h ⊢
    obtain ⟨s,hs,h⟩:=h
    refine ⟨s,hs, ?_⟩
    split at h
    · rename_i hc;rw [if_pos hc]
      split at h
      · rename_i he;rw [key _ he (by simp)];exact h
      · rename_i he;rw [key _ he (by simp)];exact h
      · simp at h
    · simp at h
  · rw [Option.bind_eq_some_iff] at h ⊢
    obtain ⟨s,hs,h⟩:=h
    refine ⟨s,hs, ?_⟩
    split at h
    · rename_i he;rw [key _ he (by simp)];exact h
    · rename_i he;rw [key _ he (by simp)]
      simp only
      split at h
      · rename_i nS;rw [S.ex _ _ _ _ nS];exact h
      · simp at h
    · rename_i he;rw [key _ he (by simp)];exact h
    · simp at h
  · simp at h
 |index t x i=>
  simp only [quiet,ho] at h ⊢
  split at h
  · rename_i len e cs hu hp
    rw [hu,S.pv (by simp [ho,Op.operands]) hp]
    simp only
    rw [Option.bind_eq_some_iff] at h ⊢
    obtain ⟨n,hn,h⟩:=h
    exact ⟨n,S.int (by simp [ho,Op.operands]) hn,h⟩
  · rename_i hno
    simp only [Option.bind_eq_some_iff] at h
    obtain ⟨v,hc,v2,gE,h⟩:=h
    have hx:x∈o.op.operands.toList:=by simp [ho,Op.operands]
    have hi:i∈o.op.operands.toList:=by simp [ho,Op.operands]
    have e:st'.pv x=st.pv x:=by
     simp only [St.val,Option.bind_eq_some_iff] at hc
     obtain ⟨p,h1,h2⟩:=hc
     rw [h1,S.pv hx h1]
    rw [e]
    split
    · rename_i len e cs hu hp;exact absurd hp (hno len e cs hu)
    · simp only [Option.bind_eq_some_iff]
      exact ⟨v,S.val hx hc,v2,S.val hi gE,h⟩
 |load t x=>
  simp only [quiet,ho] at h ⊢
  have key:=S.ev x (by simp [ho,Op.operands])
  split at h
  · rename_i he;rw [key _ he (by simp)];simp only;rw [S.bx,S.gr];exact h
  · rename_i he;rw [key _ he (by simp)];exact h
  · rename_i he;rw [key _ he (by simp)]
    simp only
    split at h
    · rename_i nS;rw [S.ex _ _ _ _ nS];exact h
    · simp at h
  · simp at h
 |build t ps=>
  simp only [quiet,ho] at h ⊢
  split at h
  · rename_i z ps' hz hp
    rw [hz,nk (st':=st') _ _ (fun x hx=>S.ev x (by simpa [ho,Op.operands] using hx)) hp]
    exact h
  · simp at h
 |buildSlice t n ps=>
  simp only [quiet,ho] at h ⊢
  split at h
  · rw [Option.bind_eq_some_iff] at h ⊢
    obtain ⟨s,hs,h⟩:=h
    refine ⟨s,hs, ?_⟩
    rw [Option.bind_eq_some_iff] at h ⊢
    obtain ⟨z,hz,h⟩:=h
    refine ⟨z,hz, ?_⟩
    split at h
    · rename_i hc;rw [if_pos hc]
      rw [Option.bind_eq_some_iff] at h ⊢
      obtain ⟨q,hp,h⟩:=h
      exact ⟨q,nk (st':=st') _ _ (fun x hx=>S.ev x (by simpa [ho,Op.operands] using hx)) hp,h⟩
    · simp at h
  · simp at h
 |extract x i=>
  simp only [quiet,ho] at h ⊢
  have key:=S.ev x (by simp [ho,Op.operands])
  split at h
  · rename_i hp;rw [key _ hp (by simp)];exact h
  · rename_i hp;rw [key _ hp (by simp)];exact h
  · simp at h
 |slice t x lo hi mx=>
  simp only [quiet,ho] at h ⊢
  have hx:x∈o.op.operands.toList:=by simp [ho,Op.operands]
  have hlo:∀l,lo=some l→l∈o.op.operands.toList:=fun l e=>by subst e;simp [ho,Op.operands]
  have hhi:∀l,hi=some l→l∈o.op.operands.toList:=fun l e=>by subst e;simp [ho,Op.operands]
  have key:=S.ev x hx
  split at h
  · rename_i hp;rw [key _ hp (by simp)]
    simp only
    split at h
    · rename_i e hu
      split at h
      · rename_i hc;rw [if_pos hc]
        rw [Option.bind_eq_some_iff] at h ⊢
        obtain ⟨b,hb,h⟩:=h
        refine ⟨b, ?_, ?_⟩
        · cases hi with
          |none=>exact hb
          |some y=>exact S.int (hhi y rfl) hb
        · rw [Option.bind_eq_some_iff] at h ⊢
          obtain ⟨c,hc,h⟩:=h
          refine ⟨c, ?_,h⟩
          cases lo with
          |none=>exact hc
          |some y=>exact S.int (hlo y rfl) hc
      · simp at h
    · simp at h
  · rename_i hp;rw [key _ hp (by simp)]
    simp only
    split at h
    · rename_i e hu
      split at h
      · rename_i hc;rw [if_pos hc]
        rw [Option.bind_eq_some_iff] at h ⊢
        obtain ⟨b,hb,h⟩:=h
        refine ⟨b, ?_, ?_⟩
        · cases hi with
          |none=>exact hb
          |some y=>exact S.int (hhi y rfl) hb
        · rw [Option.bind_eq_some_iff] at h ⊢
          obtain ⟨c,hc,h⟩:=h
          refine ⟨c, ?_,h⟩
          cases lo with
          |none=>exact hc
          |some y=>exact S.int (hlo y rfl) hc
      · simp at h
    · simp at h
  · rename_i p hno hp
    rw [key _ hp (by simp)]
    cases p with
    |sl sz n cs=>exact absurd rfl (hno sz n cs)
    |_=>
     simp only at h ⊢
     rw [Option.bind_eq_some_iff] at h ⊢
     obtain ⟨b,hb,h⟩:=h
     refine ⟨b,hb, ?_⟩
     cases mx with
     |some z=>cases lo<;>cases hi<;>simp at h
     |none=>
      cases lo with
      |none=>
       cases hi with
       |none=>exact h
       |some y=>
        simp only [Option.bind_eq_some_iff] at h ⊢
        obtain ⟨v,hv,h⟩:=h
        exact ⟨v,S.val (hhi y rfl) hv,h⟩
      |some l=>
       cases hi with
       |none=>
        simp only [Option.bind_eq_some_iff] at h ⊢
        obtain ⟨v,hv,h⟩:=h
        exact ⟨v,S.val (hlo l rfl) hv,h⟩
       |some y=>
        simp only [Option.bind_eq_some_iff] at h ⊢
        obtain ⟨v,hv,v2,eS,h⟩:=h
        exact ⟨v,S.val (hlo l rfl) hv,v2,S.val (hhi y rfl) eS,h⟩
  · simp at h
 |makeFunc f fi ca=>
  cases f with
  |func f=>
   simp only [quiet,ho] at h ⊢
   split at h
   · simp only [Option.map_eq_some_iff] at h ⊢
     obtain ⟨q,hp,h⟩:=h
     exact ⟨q,nM (st':=st') _ _ (fun x hx=>S.ev x (by simp [ho,Op.operands];exact .inr (by simpa using hx))) hp,h⟩
   · rename_i x V1 Cf
     have key:=S.ev x (by
      have:x∈fi.toList:=by rw [V1];simp
      simp [ho,Op.operands];exact .inl (by simpa using this))
     split at h
     · rename_i he;rw [key _ he (by simp)];exact h
     · simp at h
   · simp at h
  |_=>simp [quiet,ho] at h
 |nilCheck x=>
  simp only [quiet,ho] at h ⊢
  have key:=S.ev x (by simp [ho,Op.operands])
  split at h
  · rename_i he;rw [key _ he (by simp)];exact h
  · rename_i he;rw [key _ he (by simp)];exact h
  · rename_i he;rw [key _ he (by simp)];exact h
  · simp at h
 |call c=>
  obtain ⟨callee,args,ts⟩:=c
  cases callee with
  |value g=>
   simp only [quiet,ho] at h ⊢
   have key:=S.ev g (by simp [ho,Op.operands,Call.operands])
   split at h
   · rename_i v he
     simp only [Option.bind_eq_some_iff] at h
     obtain ⟨p,hp,h⟩:=h
     rw [key _ he (fun cs s e=>by subst e;simp [St.eN] at hp)]
     simp only [Option.bind_eq_some_iff]
     refine ⟨p,by rw [zl S.bx];exact hp, ?_⟩
     split at h
     · simp only [Option.bind_eq_some_iff] at h ⊢
       obtain ⟨q,hq,h⟩:=h
       obtain ⟨i1,i2⟩:=oh (st':=st') S.bx _ _ (fun x hx=>S.ev x (by simp [ho,Op.operands,Call.operands];exact .inr (by simpa using hx))) hq
       refine ⟨q,i1, ?_⟩
       have:(args.toList.any fun x=>((st'.ev x).map cc).getD true)=(args.toList.any fun x=>((st.ev x).map cc).getD true):=by
        rw [Bool.eq_iff_iff]
        simp only [List.any_eq_true]
        constructor
        · rintro ⟨x,hx,hh⟩;exact ⟨x,hx,by rw [←i2 x hx];exact hh⟩
        · rintro ⟨x,hx,hh⟩;exact ⟨x,hx,by rw [i2 x hx];exact hh⟩
       have e2:=this
       simp only [Array.any_toList] at e2
       simp only [Array.any_toList] at h ⊢
       rw [e2];exact h
     · simp at h
   · simp at h
  |builtin b=>
   cases b with
   |len=>
    simp only [quiet,ho] at h ⊢
    split at h
    · rename_i x hx
      have hm:x∈o.op.operands.toList:=by
       have:x∈args.toList:=by rw [hx];simp
       simp [ho,Op.operands,Call.operands];simpa using this
      have key:=S.ev x hm
      split at h
      · rename_i he;rw [key _ he (by simp)];exact h
      · rename_i he;rw [key _ he (by simp)]
        simp only
        split at h
        · rename_i nS hu;rw [S.ex _ _ _ _ nS,hu];exact h
        · simp at h
      · rename_i he;rw [key _ he (by simp)];exact h
      · rename_i p hno he;rw [key _ he (by simp)]
        cases p with
        |sl sz n cs=>exact absurd rfl (hno sz n cs)
        |_=>exact h
      · simp at h
    · simp at h
   |max=>
    simp only [quiet,ho] at h ⊢
    split at h
    · rename_i x y hx
      have hm:x∈args.toList∧y∈args.toList:=by rw [hx];simp
      simp only [Option.bind_eq_some_iff] at h ⊢
      obtain ⟨v,hv,v2,eS,h⟩:=h
      exact ⟨v,S.val (by simp [ho,Op.operands,Call.operands];simpa using hm.1) hv,v2,S.val (by simp [ho,Op.operands,Call.operands];simpa using hm.2) eS,h⟩
    · simp at h
   |min=>
    simp only [quiet,ho] at h ⊢
    split at h
    · rename_i x y hx
      have hm:x∈args.toList∧y∈args.toList:=by rw [hx];simp
      simp only [Option.bind_eq_some_iff] at h ⊢
      obtain ⟨v,hv,v2,eS,h⟩:=h
      exact ⟨v,S.val (by simp [ho,Op.operands,Call.operands];simpa using hm.1) hv,v2,S.val (by simp [ho,Op.operands,Call.operands];simpa using hm.2) eS,h⟩
    · simp at h
   |_=>simp [quiet,ho] at h
  |invoke r n=>simp [quiet,ho] at h
 |_=>simp [quiet,ho] at h
end
end Go.Proofs.YtibbgjafjhcemaaDoor.Cul
namespace Go.Proofs.YtibbgjafjhcemaaDoor.Cul
open Go Go.RowKit
section
variable {P:Program} {base:Nat} {w:World} {Pr:aC} {bk:Key→Nat} {st:St} {a:Act} {N:Nat}
theorem Inv.PF (I:Inv base w Pr bk st a N) {OX:List (Nat×Option Pl)} (h:∀t q,look OX t=some (some q)→ud st q→look st.tg t=some (some q)):Inv base w Pr bk { st with tg:=OX} a N:=
 ⟨I.size,I.defers,I.hb,I.bL,fun t av ht=>(by
   obtain ⟨v,hv,hr⟩:=I.slots t av ht
   exact ⟨v,hv,by cases av<;>exact hr⟩),fun x hx=>I.own x (by cases x<;>exact hx),fun x y hx hy=>I.inj x y (by cases x<;>exact hx) (by cases y<;>exact hy),I.boxes,I.gQ,I.iA,fun t q ht hq=>I.tags t q (h t q ht hq) hq⟩
theorem jS (st:St) (d:Nat) (m:Made) (t:Nat):look (st.gJ (some d) m).sl t=if t=d then some m.v else look st.sl t:=by
 simp only [St.gJ,look]
 by_cases h:t=d
 · simp [h]
 · rw [if_neg (Ne.symm h),bD,if_neg h,if_neg h]
theorem kf (st:St) (d:Nat) (m:Made) (t:Nat):look (st.gJ (some d) m).tg t=if t=d then some m.tg else look st.tg t:=by
 simp only [St.gJ,look]
 by_cases h:t=d
 · simp [h]
 · rw [if_neg (Ne.symm h),bD,if_neg h,if_neg h]
theorem tF {d t:Nat} {av:AV} {v:Value} (hr:bu d av=true) (h:dJ st a w Pr bk t av v):ee st d:=by
 cases av with
 |xr u=>simp only [bu,decide_eq_true_eq] at hr;subst hr;exact h.2
 |xe u off=>simp only [bu,decide_eq_true_eq] at hr;subst hr;exact h.2
 |_=>simp [bu] at hr
theorem Inv.gJ (I:Inv base w Pr bk st a N) {d:Nat} (hd:d<N) (zV:aJ st.gr (.s d)=none) (xP:¬ee st d) {m:Made} {v:Value} (hm:dy base w Pr bk st a m v) (dO:m.gr=none) (hex:∀sz n cs,m.v≠ .ex sz n cs):
  ∃aQ,Inv base w Pr aQ (st.gJ (some d) m) (a.put (some d) v) N∧(∀x,live (st.gJ (some d) m) x→live st x∧aQ x=bk x)∧∀k,aQ (.bx k)=bk (.bx k):=by
 obtain ⟨aQ,I1,hbk⟩:=I.made hd hm
 have Wf:=hm.val hex d
 have DD:∀t av,(if t=d then some m.v else look st.sl t)=some av→bu d av=false:=by
  intro t av h
  cases e:bu d av with
  |false=>rfl
  |true=>
   exfalso
   split at h
   · simp only [Option.some.injEq] at h;subst h
     exact xP (tF e Wf)
   · obtain ⟨u,_,hr⟩:=I.slots t av h
     exact xP (tF e hr)
 have mV:∀t,look (st.made (some d) m).sl t=look (st.gJ (some d) m).sl t:=by
  intro t
  rw [jR,jS]
  cases e:(if t=d then some m.v else look st.sl t) with
  |none=>rfl
  |some av=>simp [DD t av e]
 have RC:∀p,aJ (st.made (some d) m).gr p=aJ (st.gJ (some d) m).gr p:=by
  intro p
  rw [fY]
  show _=aJ st.gr p
  split
  · rename_i e;rw [e,zV,dO]
  · rfl
 have I2:=I1.PF (OX:=(st.gJ (some d) m).tg) (fun t q h hq=>by
  have Wp:q≠ .s d:=by
   intro e;subst e
   obtain ⟨z,hz⟩:=hq
   rw [fY,if_pos rfl,dO] at hz;simp at hz
  rw [kf] at h
  rw [vo]
  split
  · rename_i e;rw [if_pos e] at h;simp only [Option.some.injEq] at h;rw [h];rfl
  · rename_i e;rw [if_neg e] at h;rw [h];simp [Wp])
 have I3:Inv base w Pr aQ (st.gJ (some d) m) (a.put (some d) v) N:=by
  refine I2.less (fun t av h=> .inl ?_) (fun k cs h=>h) (fun p z h=>⟨?_, ?_⟩) (fun t q h=>h) (fun t u _ hx=> ?_) (fun _ _ _ _ _ _ e=>e)
  · show look (st.made (some d) m).sl t=some av
    rw [mV];exact h
  · show aJ (st.made (some d) m).gr p=some z
    rw [RC];exact h
  · cases p with
    |s t=>exact (mV t).symm
    |c k o=>rfl
  · obtain ⟨sz,n,cs,hx⟩:=hx
    exact ⟨sz,n,cs,(mV u).symm.trans hx⟩
 refine ⟨aQ,I3,fun x hx=> ?_,fun k=>hbk _ (by simp)⟩
 have QC:x≠ .sx d∧live st x:=by
  cases x with
  |bx k=>exact ⟨by simp,hx⟩
  |cx k o=>exact ⟨by simp,hx⟩
  |sx t=>
   rcases hx with ⟨sz,n,cs,hx⟩|⟨z,hx⟩
   · rw [jS] at hx
     by_cases e:t=d
     · rw [if_pos e] at hx;exact absurd (Option.some.inj hx) (hex sz n cs)
     · rw [if_neg e] at hx;exact ⟨by simpa using e, .inl ⟨sz,n,cs,hx⟩⟩
   · by_cases e:t=d
     · subst e;exact absurd (show aJ st.gr (.s t)=some z from hx) (by rw [zV];simp)
     · exact ⟨by simpa using e, .inr ⟨z,hx⟩⟩
 exact ⟨QC.2,hbk x QC.1⟩
def gj:AV→AV
 | .bX _ _=> .dead
 |v=>v
structure Told (P:Program) (call:Cl) (ops:List Oper) (st:St) (n:Nat) (bB:Nat→Nat) (ms:Nat→Made) (sT:Nat→St):Prop where
 dst:∀i,i<n→∃o,ops[i]? =some o∧o.dst=some (bB i)
 step:∀i,i<n→∀o,ops[i]? =some o→∃b,eo ops o (sT i)=some b∧(b=true→eY P call o (sT i)=some (ms i))∧(b=false→ms i={ v:=fN})
 done:∀i,i≤n→∀j,j<i→look (sT i).sl (bB j)=some (ms j).v∧look (sT i).tg (bB j)=some (ms j).tg
 rest:∀i,i≤n→∀t,(∀j,j<i→bB j≠t)→look (sT i).sl t=look st.sl t∧look (sT i).tg t=look st.tg t
 bx:∀i,i≤n→(sT i).bx=st.bx∧(sT i).gr=st.gr
theorem told {call:Cl} {ops:List Oper} {s:St} {bB:Nat→Nat}:∀(l:List Oper) (st:St),(∀i o,l[i]? =some o→o.dst=some (bB i))→(∀i j,i<l.length→j<l.length→bB i=bB j→i=j)→
  j3 P call ops l st=some s→∃(ms:Nat→Made) (sT:Nat→St),sT l.length=s∧sT 0=st∧
   (∀i,i<l.length→∀o,l[i]? =some o→∃b,eo ops o (sT i)=some b∧(b=true→eY P call o (sT i)=some (ms i))∧(b=false→ms i={ v:=fN}))∧
   (∀i,i≤l.length→∀j,j<i→look (sT i).sl (bB j)=some (ms j).v∧look (sT i).tg (bB j)=some (ms j).tg)∧
   (∀i,i≤l.length→∀t,(∀j,j<i→bB j≠t)→look (sT i).sl t=look st.sl t∧look (sT i).tg t=look st.tg t)∧
   (∀i,i≤l.length→(sT i).bx=st.bx∧(sT i).gr=st.gr):=by
 intro l
 suffices H:∀(l:List Oper) (pre:List Oper) (pg st:St) (ms:Nat→Made) (sT:Nat→St),(∀i o,(pre++l)[i]? =some o→o.dst=some (bB i))→(∀i j,i<(pre++l).length→j<(pre++l).length→bB i=bB j→i=j)→
   sT pre.length=st→sT 0=pg→
   (∀i,i<pre.length→∀o,pre[i]? =some o→∃b,eo ops o (sT i)=some b∧(b=true→eY P call o (sT i)=some (ms i))∧(b=false→ms i={ v:=fN}))→
   (∀i,i≤pre.length→∀j,j<i→look (sT i).sl (bB j)=some (ms j).v∧look (sT i).tg (bB j)=some (ms j).tg)→
   (∀i,i≤pre.length→∀t,(∀j,j<i→bB j≠t)→look (sT i).sl t=look pg.sl t∧look (sT i).tg t=look pg.tg t)→
   (∀i,i≤pre.length→(sT i).bx=pg.bx∧(sT i).gr=pg.gr)→j3 P call ops l st=some s→
   ∃(ms:Nat→Made) (sT:Nat→St),sT (pre++l).length=s∧sT 0=pg∧
   (∀i,i<(pre++l).length→∀o,(pre++l)[i]? =some o→∃b,eo ops o (sT i)=some b∧(b=true→eY P call o (sT i)=some (ms i))∧(b=false→ms i={ v:=fN}))∧
   (∀i,i≤(pre++l).length→∀j,j<i→look (sT i).sl (bB j)=some (ms j).v∧look (sT i).tg (bB j)=some (ms j).tg)∧
   (∀i,i≤(pre++l).length→∀t,(∀j,j<i→bB j≠t)→look (sT i).sl t=look pg.sl t∧look (sT i).tg t=look pg.tg t)∧
   (∀i,i≤(pre++l).length→(sT i).bx=pg.bx∧(sT i).gr=pg.gr) by
  intro st h1 h2 h
  have:=H l [] st st (fun _=>{ v:= .dead}) (fun _=>st) (by simpa using h1) (by simpa using h2) rfl rfl (by simp) (fun i hi j hj=>by simp at hi;omega) (fun i hi t _=>⟨rfl,rfl⟩) (fun _ _=>⟨rfl,rfl⟩) h
  simpa using this
 clear l
 intro l
 induction l with
 |nil=>
  intro pre pg st ms sT h1 h2 e1 e2 p1 p2 p3 p4 h
  simp only [j3,Option.some.injEq] at h
  subst h
  simp only [List.append_nil]
  exact ⟨ms,sT,e1,e2,p1,p2,p3,p4⟩
 |cons o l ih=>
  intro pre pg st ms sT h1 h2 e1 e2 p1 p2 p3 p4 h
  simp only [j3,Option.bind_eq_some_iff] at h
  obtain ⟨b,hb,h⟩:=h
  have MS:o.dst=some (bB pre.length):=h1 pre.length o (by simp)
  obtain ⟨mk,hmk,hrun⟩:∃mk:Made,((b=true→eY P call o st=some mk)∧(b=false→mk={ v:=fN}))∧j3 P call ops l (st.gJ o.dst mk)=some s:=by
   cases b with
   |true=>
    simp only [Option.bind_eq_some_iff] at h
    obtain ⟨m,hm,h⟩:=h
    exact ⟨m,⟨fun _=>hm,fun h=>by simp at h⟩,h⟩
   |false=>exact ⟨_,⟨fun h=>by simp at h,fun _=>rfl⟩,h⟩
  rw [MS] at hrun
  have hne:∀j,j<pre.length→bB j≠bB pre.length:=fun j hj e=>by
   have:=h2 j pre.length (by simp;omega) (by simp) e
   omega
  obtain ⟨ms',Ij,Ik⟩:∃ms':Nat→Made,(∀j,j<pre.length→ms' j=ms j)∧ms' pre.length=mk:=⟨fun j=>if j<pre.length then ms j else mk,fun j hj=>if_pos hj,if_neg (by omega)⟩
  obtain ⟨Kq,hs1,js⟩:∃Kq:Nat→St,(∀j,j≤pre.length→Kq j=sT j)∧Kq (pre.length+1)=st.gJ (some (bB pre.length)) mk:=⟨fun j=>if j≤pre.length then sT j else st.gJ (some (bB pre.length)) mk,fun j hj=>if_pos hj,if_neg (by omega)⟩
  have key:=ih (pre++[o]) pg (st.gJ (some (bB pre.length)) mk) ms' Kq (by simpa using h1) (by simpa using h2) (by simpa using js) (by rw [hs1 0 (by omega),e2])
   (fun i hi o' ho'=>by
    simp only [List.length_append,List.length_singleton] at hi
    by_cases e:i=pre.length
    · subst e
      simp at ho';subst ho'
      refine ⟨b, ?_, ?_, ?_⟩
      · rw [hs1 _ (Nat.le_refl _),e1];exact hb
      · rw [hs1 _ (Nat.le_refl _),e1,Ik];exact hmk.1
      · rw [Ik];exact hmk.2
    · rw [List.getElem?_append_left (by omega)] at ho'
      rw [hs1 i (by omega),Ij i (by omega)]
      exact p1 i (by omega) o' ho')
   (fun i hi j hj=>by
    simp only [List.length_append,List.length_singleton] at hi
    by_cases e:i=pre.length+1
    · subst e
      rw [js,jS,kf]
      by_cases ej:j=pre.length
      · subst ej;rw [if_pos rfl,if_pos rfl,Ik];exact ⟨rfl,rfl⟩
      · rw [if_neg (hne j (by omega)),if_neg (hne j (by omega)),Ij j (by omega),←e1]
        exact p2 pre.length (Nat.le_refl _) j (by omega)
    · rw [hs1 i (by omega),Ij j (by omega)]
      exact p2 i (by omega) j hj)
   (fun i hi t ht=>by
    simp only [List.length_append,List.length_singleton] at hi
    by_cases e:i=pre.length+1
    · subst e
      have h0:t≠bB pre.length:=fun e=>ht pre.length (by omega) e.symm
      rw [js,jS,kf,if_neg h0,if_neg h0,←e1]
      exact p3 pre.length (Nat.le_refl _) t (fun j hj=>ht j (by omega))
    · rw [hs1 i (by omega)]
      exact p3 i (by omega) t ht)
   (fun i hi=>by
    simp only [List.length_append,List.length_singleton] at hi
    by_cases e:i=pre.length+1
    · subst e
      rw [js]
      have:=p4 pre.length (Nat.le_refl _)
      rw [e1] at this
      exact this
    · rw [hs1 i (by omega)]
      exact p4 i (by omega))
   hrun
  simpa using key
end
end Go.Proofs.YtibbgjafjhcemaaDoor.Cul
namespace Go.Proofs.YtibbgjafjhcemaaDoor.Cul
open Go Go.RowKit
def tP (w:World) (b:Nat) (cs:List PV):Option (Nat×Nat)→Value→Prop
 |none,v=>v= .pointer (some ⟨b,0,none⟩)
 |some (sz,n),v=>∃cap c T,v= .slice (some ⟨b,0,none⟩) n cap∧0<sz∧n≤cap∧cs.length=n* sz∧w.heap[b]? =some (.cells c T (0,0))∧cap* sz≤c.size
def pM:Value→Option Nat
 | .pointer (some a)=>some a.block
 | .slice (some a) _ _=>some a.block
 |_=>none
theorem tP.qF {w:World} {b:Nat} {cs:List PV} {s:Option (Nat×Nat)} {v:Value} (h:tP w b cs s v):pM v=some b:=by
 cases s with
 |none=>have h':v= .pointer (some ⟨b,0,none⟩):=h;subst h';rfl
 |some x=>obtain ⟨cap,c,T,h1,_⟩:=h;subst h1;rfl
theorem tP.mono {w w':World} {b:Nat} {cs:List PV} {s:Option (Nat×Nat)} {v:Value} (hh:w'.heap[b]? =w.heap[b]?) (h:tP w b cs s v):tP w' b cs s v:=by
 cases s with
 |none=>exact h
 |some x=>obtain ⟨cap,c,T,h1,h2,h3,h4,h5,h6⟩:=h;exact ⟨cap,c,T,h1,h2,h3,h4,hh.trans h5,h6⟩
structure JC (base:Nat) (a:Act) (w:World) (Pr:aC) (d b:Nat) (cs:List PV) (s:Option (Nat×Nat)):Prop where
 at_:∃v,a.tmps[d]? =some v∧tP w b cs s v
 heap:∃c T vs,w.heap[b]? =some (.cells c T (0,0))∧vs<+:c.toList∧aO w Pr cs vs∧One vs
 lo:base≤b
 free:∀o,¬Pr b o
def cG (listed:Array Bool) (j:Nat):Prop:=listed.getD j false=true
structure JJ (base:Nat) (w0:World) (aN:aC) (N:Nat) (aS:ew) (st:St) (n:Nat) (bB:Nat→Nat) (ms:Nat→Made) (listed:Array Bool) (a:Act) (w:World) (sL:St) (Pr:aC) (bk:Key→Nat):Prop where
 inv:Inv base w Pr bk sL a N
 chain:Below base w0 w∧(∀b o,b<base→Pr b o→aN b o)∧KO w0 w∧(∀k b,aS.k k=some b→bk (.bx k)=b)∧(∀b o v,aN b o→w0.cell? ⟨b,o,none⟩=some v→Pr b o∧w.cell? ⟨b,o,none⟩=some v)∧∀ds,aS.ds=some ds→a.defers=ds
 bx:sL.bx=st.bx
 gr:sL.gr=st.gr
 on:∀j,j<n→cG listed j→look sL.sl (bB j)=some (gj (ms j).v)∧look sL.tg (bB j)=some (ms j).tg
 off:∀t,(∀j,j<n→cG listed j→bB j≠t)→look sL.sl t=look st.sl t∧look sL.tg t=look st.tg t
 new:∀j cs s,j<n→cG listed j→(ms j).v= .bX cs s→∃b,JC base a w Pr (bB j) b cs s∧∀x,live sL x→bk x≠b
 apart:∀i j ci cj si sj,i<n→j<n→i≠j→cG listed i→cG listed j→(ms i).v= .bX ci si→(ms j).v= .bX cj sj→(a.tmps[bB i]?).bind pM≠(a.tmps[bB j]?).bind pM
def uB (w w':World) (aD:aC) (v:Value) (cs:List PV) (s:Option (Nat×Nat)):Prop:=
 ∃b,tP w' b cs s v∧w.heap.size≤b∧(∃c T vs,w'.heap[b]? =some (.cells c T (0,0))∧vs<+:c.toList∧aO w' aD cs vs∧One vs)∧∀o,¬aD b o
section
variable {P:Program} {base:Nat} {w w0:World} {Pr aN:aC} {bk:Key→Nat} {st sL:St} {a:Act} {N n:Nat} {bB:Nat→Nat} {ms:Nat→Made} {listed:Array Bool} {aS:ew}
theorem rP {i j:Nat} (h:cG (listed.setIfInBounds i true) j):j=i∨cG listed j:=by
 by_cases e:i=j
 · exact .inl e.symm
 · unfold cG at h;rw [getD_set_ne false e] at h;exact .inr h
theorem OD {i j:Nat} (h:cG listed j):cG (listed.setIfInBounds i true) j:=getD_set_true h
theorem A6 {i:Nat} (h:i<listed.size):cG (listed.setIfInBounds i true) i:=by
 unfold cG;simp [h]
theorem JJ.next (H:JJ base w0 aN N aS st n bB ms listed a w sL Pr bk) {i:Nat} (hi:i<n) (hsz:n≤listed.size) (hoff:¬cG listed i) (hinj:∀i j,i<n→j<n→bB i=bB j→i=j) (hd:bB i<N)
  (zV:aJ st.gr (.s (bB i))=none) (xP:¬ee st (bB i)) {w':World} {aD:aC} {v:Value} (hf:Fw w Pr w' aD) (hm:dy base w' aD bk sL a { v:=gj (ms i).v,gr:=none,tg:=(ms i).tg} v) (hx:jH (ms i).v=false)
  (hnew:∀cs s,(ms i).v= .bX cs s→uB w w' aD v cs s):
  ∃QW aQ,JJ base w0 aN N aS st n bB ms (listed.setIfInBounds i true) (a.put (some (bB i)) v) w' QW aD aQ:=by
 have I':=H.inv.fw hf
 have hN:bB i<a.tmps.size:=by rw [I'.size];exact hd
 have hno:∀j,j<n→cG listed j→bB j≠bB i:=fun j hj hl e=>hoff (hinj j i hj hi e ▸hl)
 have VO:=H.off (bB i) hno
 have Rw:¬ee sL (bB i):=fun ⟨sz,m,c,h⟩=>xP ⟨sz,m,c,VO.1 ▸h⟩
 have Rv:∀sz m c,gj (ms i).v≠ .ex sz m c:=fun sz m c e=>by
  cases hv:(ms i).v<;>rw [hv] at e hx<;>simp [gj,jH] at e hx
 obtain ⟨aQ,I2,mT,hbk⟩:=I'.gJ hd (by rw [H.gr];exact zV) Rw hm rfl Rv
 have hold:∀j,j<n→cG listed j→(a.put (some (bB i)) v).tmps[bB j]? =a.tmps[bB j]? :=fun j hj hl=>by rw [cr hN,if_neg (hno j hj hl)]
 refine ⟨_,aQ,I2,⟨H.chain.1.trans (hf.gO.mono H.inv.hb),fun b o hb h=>H.chain.2.1 b o hb (hf.old b o (Nat.lt_of_lt_of_le hb H.inv.hb) h),H.chain.2.2.1.trans hf.ko,fun k b e=>(hbk k).trans (H.chain.2.2.2.1 k b e),fun b o v h1 h2=>by
  obtain ⟨h3,h4⟩:=H.chain.2.2.2.2.1 b o v h1 h2
  have hkp:=hf.kp H.inv.bL
  exact ⟨hkp.pr b o h3,(hkp.cell b o h3).trans h4⟩,H.chain.2.2.2.2.2⟩,H.bx,H.gr, ?_, ?_, ?_, ?_⟩
 · intro j hj hl
   rw [jS,kf]
   rcases rP hl with rfl|hl
   · rw [if_pos rfl,if_pos rfl];exact ⟨rfl,rfl⟩
   · rw [if_neg (hno j hj hl),if_neg (hno j hj hl)];exact H.on j hj hl
 · intro t ht
   have h1:t≠bB i:=fun e=>ht i hi (A6 (by omega)) e.symm
   rw [jS,kf,if_neg h1,if_neg h1]
   exact H.off t (fun j hj hl=>ht j hj (OD hl))
 · intro j cs s hj hl hv
   rcases rP hl with rfl|hl
   · obtain ⟨b,h1,h2,h3,h4⟩:=hnew cs s hv
     refine ⟨b,⟨⟨v,by rw [cr hN,if_pos rfl],h1⟩,h3,Nat.le_trans H.inv.hb h2,h4⟩,fun x hx e=> ?_⟩
     obtain ⟨h5,h6⟩:=mT x hx
     have:=(H.inv.own x h5).2
     omega
   · obtain ⟨b,hn,hfr⟩:=H.new j cs s hj hl hv
     obtain ⟨c,T,vs,h1,hpre,h2,h3⟩:=hn.heap
     have pT:b<w.heap.size:=(Array.getElem?_eq_some_iff.1 h1).1
     obtain ⟨u,mW,ji⟩:=hn.at_
     refine ⟨b,⟨⟨u,by rw [hold j hj hl];exact mW,ji.mono (hf.heap pT)⟩,⟨c,T,vs,(hf.heap pT).trans h1,hpre,aO.mono (hf.kp H.inv.bL) h2,h3⟩,hn.lo,fun o h=>hn.free o (hf.old b o pT h)⟩,fun x hx e=> ?_⟩
     obtain ⟨h5,h6⟩:=mT x hx
     exact hfr x h5 (h6 ▸e)
 · intro p q cp cq sp sq hp hq hpq iM Qn Ns Nt
   have fresh:∀j cj sj,j<n→cG listed j→(ms j).v= .bX cj sj→∀ci si,(ms i).v= .bX ci si→(some v:Option Value).bind pM≠(a.tmps[bB j]?).bind pM:=by
    intro j cj sj hj hl hv ci si WD e
    obtain ⟨b,h1,h2,_⟩:=hnew ci si WD
    obtain ⟨b2,hn,_⟩:=H.new j cj sj hj hl hv
    obtain ⟨c,T,vs,h3,_⟩:=hn.heap
    have pT:b2<w.heap.size:=(Array.getElem?_eq_some_iff.1 h3).1
    obtain ⟨u,mW,ji⟩:=hn.at_
    rw [mW,Option.bind_some,Option.bind_some,h1.qF,ji.qF] at e
    have e2:b=b2:=Option.some.inj e
    omega
   rcases rP iM with e1|DA
   · rcases rP Qn with e2|z7
     · exact absurd (e1.trans e2.symm) hpq
     · rw [hold q hq z7,e1,cr hN,if_pos rfl]
       exact fresh q cq sq hq z7 Nt cp sp (e1 ▸Ns)
   · rcases rP Qn with e2|z7
     · rw [hold p hp DA,e2,cr hN,if_pos rfl]
       exact fun e=>fresh p cp sp hp DA Ns cq sq (e2 ▸Nt) e.symm
     · rw [hold q hq z7,hold p hp DA]
       exact H.apart p q cp cq sp sq hp hq hpq DA z7 Ns Nt
theorem E2 {call:Cl} (hC:aI P call) (I:Inv base w Pr bk sL a N) {o:Oper} {sT:St} {m:Made} (S:oe o sT sL) (h:oJ call o sT=some m) (K:Act→World→Prop) (Q:Exit→Act→World→Prop)
  (hK:∀v w' aD,Fw w Pr w' aD→dy base w' aD bk sL a { v:=gj m.v,gr:=none,tg:=m.tg} v→jH m.v=false→
   (∀cs s,m.v= .bX cs s→uB w w' aD v cs s)→K (a.put o.dst v) w'):o.wp P a w K Q:=by
 unfold oJ at h
 split at h
 · rename_i f args ts ho
   split at h
   · simp at h
   · rename_i hout
     simp only [Option.bind_eq_some_iff] at h
     obtain ⟨gm,has,r,hr,h⟩:=h
     split at h
     · rename_i sz n cs z hv hz
       split at h
       · rename_i gW
         obtain ⟨rfl,Ih⟩:=gW
         simp only [Option.some.injEq] at h
         subst h
         obtain ⟨hbody,bZ⟩:=hC.fn f _ r hr
         obtain ⟨i1,i2⟩:=oh (st':=sL) S.bx _ _ (fun x hx=>S.ev x (by simp [ho,Op.operands,Call.operands];exact .inr (by simpa using hx))) has
         have zO:¬(args.toList.any fun x=>((sL.ev x).map cc).getD true)=true:=by
          intro hh
          refine hout ?_
          simp only [List.any_eq_true] at hh ⊢
          obtain ⟨x,hx,h2⟩:=hh
          exact ⟨x,hx,by rw [←i2 x hx];exact h2⟩
         have hargs:=j4 I (by simpa using zO) i1
         have hge:a.eval (.func f)= .func (.func f) #[] #[]:=rfl
         have Fc:=hargs.app (ds:=[]) (us:=[]) .nil
         rw [List.append_nil] at Fc
         refine nI (lE (cs:=[]) ho hge) hbody (bZ _ w Pr I.bL Fc) ?_
         rintro e w' ⟨v,aD,rfl,ef⟩
         refine ⟨v,rfl, ?_⟩
         obtain ⟨b,o',n',cap,dL,e1,e2,hroom,e3,e4,e5⟩:=ef.gr z hz
         rw [hv] at e1
         simp only [PV.sl.injEq,true_and] at e1
         obtain ⟨rfl,rfl⟩:=e1
         subst e3
         obtain ⟨qM,u6⟩:∃qM:aC,∀b' o,qM b' o↔(aD b' o∧b'≠b):=⟨fun b' o=>_,fun _ _=>Iff.rfl⟩
         have hf:Fw w Pr w' qM:=⟨ef.fw.gO,fun b' o h=>(u6 b' o).2 ⟨ef.fw.pr b' o h,fun e=>by have:=I.bL b' o h;omega⟩,fun b' o hlt h=>ef.fw.old b' o hlt ((u6 b' o).1 h).1,fun b' o h=>ef.fw.new b' o ((u6 b' o).1 h).1⟩
         obtain ⟨c,T,hb,hsz⟩:=hroom.there
         obtain ⟨vs,hrl,hone,hpre,hlen⟩:∃vs,aO w' qM cs vs∧One vs∧vs<+:c.toList∧cs.length=n* z:=by
          have cS:=ef.rp
          rw [hv,e2] at cS
          cases cS with
          |sl gF h1 hl hn hc hp=>exact ⟨_,pY Ih gF,h1,rS hb hc,hl⟩
         exact hK v w' qM hf ⟨fun _ _=>trivial,fun _ _ _ e=>by simp [gj] at e,fun z e=>by simp at e,fun q e=>by simp at e⟩ rfl (fun cs' s' e=>by
          cases e
          exact ⟨b,⟨cap,c,T,e2,hroom.hz,hroom.le,hlen,hb,by omega⟩,e4,⟨c,T,vs,hb,hpre,hrl,hone⟩,fun o h=>((u6 b o).1 h).2 rfl⟩)
       · simp at h
     · simp at h
 · simp at h
theorem Gk {call:Cl} (hC:aI P call) (I:Inv base w Pr bk sL a N) {o:Oper} {sT:St} {m:Made} (S:oe o sT sL) (h:eY P call o sT=some m) (K:Act→World→Prop) (Q:Exit→Act→World→Prop)
  (hK:∀v w' aD,Fw w Pr w' aD→dy base w' aD bk sL a { v:=gj m.v,gr:=none,tg:=m.tg} v→jH m.v=false→
   (∀cs s,m.v= .bX cs s→uB w w' aD v cs s)→K (a.put o.dst v) w'):o.wp P a w K Q:=by
 have gp:∀x av,o.op= .assign x→sT.ev x=some av→(∀cs s,av≠ .bX cs s)→jH av=false→m={ v:=av}→o.wp P a w K Q:=by
  intro x av ho he hn hx hm
  have he':=S.ev x (by simp [ho,Op.operands]) av he hn
  have hrun:(execOp a.eval o).run P w= .ok (.value (a.eval x)) w:=by simp [execOp,ho]
  refine nJ hrun (hK _ _ _ (Fw.refl I.bL) ?_ (by rw [hm];exact hx) (fun cs s e=>by rw [hm] at e;exact absurd e (hn cs s)))
  obtain ⟨t,hr⟩:=eP I he'
  have hh:gj av=av:=by cases av<;>first|rfl|exact absurd rfl (hn _ _)
  rw [hm,hh]
  exact cz (fun sz n cs e=>by subst e;simp [jH] at hx) hr
 have other:∀m0,quiet P call o sT=some m0→jH m0.v=false→m={ m0 with gr:=none}→o.wp P a w K Q:=by
  intro m0 hq hx hm
  refine AS hC I (D5 S hq) K Q fun v w' aD hf hmo=> ?_
  have Qo:∀sz n cs,m0.v≠ .ex sz n cs:=fun sz n cs e=>by rw [e] at hx;simp [jH] at hx
  have hnn:∀cs s,m0.v≠ .bX cs s:=fun cs s e=>by have:=hmo.val Qo 0;rw [e] at this;exact this
  have hh:gj m0.v=m0.v:=by cases e:m0.v<;>first|rfl|exact absurd e (hnn _ _)
  subst hm
  refine hK v w' aD hf ⟨fun h t=>by simp only [hh] at h ⊢;exact hmo.val h t,fun sz n cs e=>by simp only [hh] at e;exact absurd e (Qo sz n cs),fun z e=>by simp at e,hmo.tg⟩ hx (fun cs s e=>absurd e (hnn cs s))
 unfold eY at h
 split at h
 · exact E2 hC I S h K Q hK
 split at h
 · rename_i x ho
   split at h
   · rename_i p he;simp only [Option.some.injEq] at h;exact gp x _ ho he (by simp) rfl h.symm
   · rename_i k off he;simp only [Option.some.injEq] at h;exact gp x _ ho he (by simp) rfl h.symm
   · rename_i f caps he;simp only [Option.some.injEq] at h;exact gp x _ ho he (by simp) rfl h.symm
   · simp at h
 · rename_i t ho
   simp only [Option.map_eq_some_iff] at h
   obtain ⟨z,hz,rfl⟩:=h
   obtain ⟨i,zv,hi,qK,qJ⟩:=kT (w:=w) (Pr:=Pr) hz
   obtain ⟨fW,gE⟩:=qJ.iI (iQ (iZ hz))
   have hf:=ru I (.cells zv.cells t)
   have he:(execOp a.eval o).run P w= .ok (.value (.pointer (some ⟨w.heap.size,0,none⟩))) (w.alloc (.cells zv.cells t)):=by
    simp only [execOp,ho]
    refine dH ?_
    simp [Instr.alloc,zeroValue,typeInfo,hi,qK,qw]
   have hk:=hK (.pointer (some ⟨w.heap.size,0,none⟩)) _ _ hf ⟨fun _ _=>trivial,fun _ _ _ e=>by simp [gj] at e,fun z e=>by simp at e,fun q e=>by simp at e⟩ rfl (fun cs s e=>by
    cases e
    refine ⟨w.heap.size,rfl,Nat.le_refl _,⟨zv.cells,t,zv.cells.toList,by rw [heap_alloc],List.prefix_refl _,aO.mono (hf.kp I.bL) fW,gE⟩,fun o h=>by have:=I.bL _ _ h;omega⟩)
   unfold Oper.wp
   rw [he]
   exact hk
 · simp only [Option.bind_eq_some_iff] at h
   obtain ⟨m0,hm0,h⟩:=h
   split at h
   · simp at h
   · rename_i hx
     simp only [Option.some.injEq] at h
     exact other m0 hm0 (by simpa using hx) h.symm
end
end Go.Proofs.YtibbgjafjhcemaaDoor.Cul
namespace Go.Proofs.YtibbgjafjhcemaaDoor.Cul
open Go Go.RowKit
section
variable {P:Program} {base:Nat} {w w0:World} {Pr aN:aC} {bk:Key→Nat} {st sL:St} {a:Act} {N n:Nat} {bB:Nat→Nat} {ms:Nat→Made} {sT:Nat→St} {listed:Array Bool} {ops:Array Oper} {call:Cl} {aS:ew}
theorem mO {o:Oper} {j:Nat} (h:jN o j=true):∃e∈o.after,Region.binds .any e=true∧e.on=j:=by
 unfold jN at h
 obtain ⟨e,he,hb⟩:=Array.any_eq_true'.1 h
 simp only [Bool.and_eq_true,beq_iff_eq] at hb
 exact ⟨e,he,hb⟩
theorem kZ {l:List Oper} {i:Nat} {o:Oper} (h:m9 l n i o=true):
  (∀g want,o.guard=some (g,want)→g<i∧jN o g=true)∧(∀e∈o.after,Region.binds .any e=true→e.on<i)∧
  ∀j,j<n→∀oj d,l[j]? =some oj→oj.dst=some d→(d∈tmpsOf o→(j<i∧jN o j=true)∨(i<j∧jN oj i=true)∨j=i)∧(j=i∨o.dst≠some d):=by
 simp only [m9,Bool.and_eq_true] at h
 obtain ⟨⟨h1,h2⟩,h3⟩:=h
 refine ⟨fun g want e=> ?_,fun e he hb=> ?_,fun j hj oj d vg hd=> ?_⟩
 · rw [e] at h1;simpa using h1
 · have:=Array.all_eq_true'.1 h2 e he
   simp only [Bool.or_eq_true,Bool.not_eq_true',decide_eq_true_eq] at this
   rcases this with this|this
   · rw [hb] at this;simp at this
   · exact this
 · have:=List.all_eq_true.1 h3 j (List.mem_range.2 hj)
   simp only [vg,Option.bind_some,hd,Bool.and_eq_true,Bool.or_eq_true,Bool.not_eq_true',decide_eq_true_eq,beq_iff_eq,bne_iff_ne] at this
   obtain ⟨h4,h5⟩:=this
   refine ⟨fun hm=> ?_,h5⟩
   rcases h4 with ((h4|h4)|h4)|h4
   · rw [List.contains_eq_mem] at h4;simp [hm] at h4
   · exact .inl h4
   · exact .inr (.inl h4)
   · exact .inr (.inr h4)
theorem vA {o:Oper} {t:Nat} (h:Operand.tmp t∈o.op.operands.toList):t∈tmpsOf o:=by
 unfold tmpsOf
 exact List.mem_filterMap.2 ⟨_,h,rfl⟩
theorem LI (T:Told P call ops.toList st n bB ms sT) (H:JJ base w0 aN N aS st n bB ms listed a w sL Pr bk) {i:Nat} (hi:i<n) {o:Oper} (ho:ops[i]? =some o) (mS:m9 ops.toList n i o=true)
  (z9:∀e∈o.after,Region.binds .any e=true→cG listed e.on) (inv:HeadInv .any ops n listed) (hnot:¬cG listed i) (vf:∀j,j<n→jH (ms j).v=false) (hfresh:∀j,j<n→¬ee st (bB j)):
  oe o (sT i) sL:=by
 obtain ⟨hg,ha,Dy⟩:=kZ mS
 have hin:i≤n:=Nat.le_of_lt hi
 have near:∀t,t∈tmpsOf o→(∃j,j<i∧bB j=t∧cG listed j)∨((∀j,j<i→bB j≠t)∧∀j,j<n→cG listed j→bB j≠t):=by
  intro t ht
  have hd:∀j,j<n→bB j=t→(j<i∧cG listed j)∨(¬j<i∧¬cG listed j):=by
   intro j hj e
   obtain ⟨oj,vg,MQ⟩:=T.dst j hj
   rcases (Dy j hj oj (bB j) vg MQ).1 (e ▸ht) with ⟨h1,h2⟩|⟨h1,h2⟩|h1
   · obtain ⟨e',he,hb,hon⟩:=mO h2
     exact .inl ⟨h1,hon ▸z9 e' he hb⟩
   · obtain ⟨e',he,hb,hon⟩:=mO h2
     refine .inr ⟨by omega,fun hl=>hnot ?_⟩
     have:=inv.closed j oj (by simpa using vg) hl e' he hb
     rw [hon] at this;exact this
   · subst h1;exact .inr ⟨by omega,hnot⟩
  by_cases h:∃j,j<i∧bB j=t
  · obtain ⟨j,hj,e⟩:=h
    rcases hd j (by omega) e with ⟨_,hl⟩|⟨hc,_⟩
    · exact .inl ⟨j,hj,e,hl⟩
    · exact absurd hj hc
  · refine .inr ⟨fun j hj e=>h ⟨j,hj,e⟩,fun j hj hl e=> ?_⟩
    rcases hd j hj e with ⟨h1,_⟩|⟨_,h2⟩
    · exact h ⟨j,h1,e⟩
    · exact h2 hl
 constructor
 · intro x hx av he hn
   cases x with
   |tmp t=>
    simp only [St.ev] at he ⊢
    rcases near t (vA hx) with ⟨j,hj,e,hl⟩|⟨h1,h2⟩
    · have h3:=(T.done i hin j hj).1
      rw [e,he] at h3
      have h4:=(H.on j (by omega) hl).1
      rw [e] at h4
      have h5:(ms j).v=av:=(Option.some.inj h3).symm
      rw [h4,h5]
      cases av<;>first|rfl|exact absurd rfl (hn _ _)
    · rw [(T.rest i hin t h1).1] at he
      rw [(H.off t h2).1];exact he
   |const v=>exact he
   |func f=>exact he
   |global g=>exact he
 · intro u sz m c he
   have hne:∀j,j<i→bB j≠u:=by
    intro j hj e
    have h3:=(T.done i hin j hj).1
    rw [e,he] at h3
    have:=vf j (by omega)
    rw [←Option.some.inj h3] at this
    simp [jH] at this
   rw [(T.rest i hin u hne).1] at he
   have RJ:∀j,j<n→cG listed j→bB j≠u:=fun j hj _ e=>hfresh j hj ⟨sz,m,c,e ▸he⟩
   rw [(H.off u RJ).1];exact he
 · rw [H.bx,(T.bx i hin).1]
 · rw [H.gr,(T.bx i hin).2]
 · intro t hx
   rcases near t (vA hx) with ⟨j,hj,e,hl⟩|⟨h1,h2⟩
   · have h3:=(T.done i hin j hj).2
     have h4:=(H.on j (by omega) hl).2
     rw [e] at h3 h4
     simp only [St.tag];rw [h3,h4]
   · simp only [St.tag]
     rw [(T.rest i hin t h1).2,(H.off t h2).2]
theorem BR (T:Told P call ops.toList st n bB ms sT) (H:JJ base w0 aN N aS st n bB ms listed a w sL Pr bk) {i:Nat} (hi:i<n) {o:Oper} (mS:m9 ops.toList n i o=true)
  (z9:∀e∈o.after,Region.binds .any e=true→cG listed e.on) {b:Bool} (h:eo ops.toList o (sT i)=some b):eo ops.toList o sL=some b:=by
 obtain ⟨hg,_,_⟩:=kZ mS
 unfold eo at h ⊢
 cases hgd:o.guard with
 |none=>rw [hgd] at h;exact h
 |some g=>
  obtain ⟨j,want⟩:=g
  obtain ⟨hji,hb⟩:=hg j want hgd
  obtain ⟨e,he,MH,hon⟩:=mO hb
  have hl:cG listed j:=hon ▸z9 e he MH
  obtain ⟨oj,vg,MQ⟩:=T.dst j (by omega)
  simp only [hgd,vg,Option.bind_some,MQ] at h ⊢
  have h3:=(T.done i (Nat.le_of_lt hi) j hji).1
  have h4:=(H.on j (by omega) hl).1
  rw [h3] at h
  rw [h4]
  split at h
  · rename_i c hc;rw [Option.some.inj hc];exact h
  · rename_i hc;rw [Option.some.inj hc];exact h
  · simp at h
def cnt (n:Nat) (listed:Array Bool):Nat:=((List.range n).filter fun j=> !listed.getD j false).length
theorem HK (h:cnt n listed=0):∀j,j<n→cG listed j:=by
 intro j hj
 have:=List.eq_nil_of_length_eq_zero h
 have h2:=List.filter_eq_nil_iff.1 this j (List.mem_range.2 hj)
 unfold cG
 cases e:listed.getD j false with
 |true=>rfl
 |false=>exact absurd (by rw [e];rfl) h2
theorem HJ {f:Nat} (h:cnt n listed=f+1):∃j,j<n∧¬cG listed j:=by
 cases hl:(List.range n).filter fun j=> !listed.getD j false with
 |nil=>unfold cnt at h;rw [hl] at h;simp at h
 |cons j l=>
  have:j∈(List.range n).filter fun j=> !listed.getD j false:=by rw [hl];simp
  obtain ⟨h1,h2⟩:=List.mem_filter.1 this
  refine ⟨j,List.mem_range.1 h1,fun e=> ?_⟩
  unfold cG at e;rw [e] at h2;simp at h2
theorem KQ {i f:Nat} (hi:i<n) (hsz:n≤listed.size) (hoff:¬cG listed i) (h:cnt n listed=f+1):cnt n (listed.setIfInBounds i true)=f:=by
 have h1:((List.range n).filter fun j=> !(listed.setIfInBounds i true).getD j false)=((List.range n).filter fun j=> !listed.getD j false).erase i:=by
  rw [List.Nodup.erase_eq_filter ((List.nodup_range).filter _),List.filter_filter]
  apply List.filter_congr
  intro j hj
  by_cases e:i=j
  · subst e
    have:=A6 (listed:=listed) (i:=i) (by omega)
    unfold cG at this
    rw [this];simp
  · rw [getD_set_ne false e]
    have:(j !=i)=true:=by simpa using Ne.symm e
    rw [this];simp
 have h2:i∈(List.range n).filter fun j=> !listed.getD j false:=by
  refine List.mem_filter.2 ⟨List.mem_range.2 hi, ?_⟩
  unfold cG at hoff
  simpa using hoff
 unfold cnt at h ⊢
 rw [h1,List.length_erase_of_mem h2,h];rfl
theorem tK {F:Fence} {m:Nat} {Q':Exit→Act→World→Prop}:∀(l:List Oper) (k:Nat) (listed:Array Bool) (a:Act) (w:World),(∀j,l[j]? =ops[k+j]?)→Region.seqB .any ops l.length k listed=true→wpListIn F m P ops Q' l a w→wpAnyIn F m P .any ops Q' l.length listed a w
 |[],_,_,_,_,_,hB,h=>⟨by simpa [Region.seqB] using hB,h⟩
 |o::l,k,listed,a,w,hl,hB,h=>by
  have h0:ops[k]? =some o:=by have:=hl 0;simpa using this.symm
  simp only [List.length_cons,Region.seqB,Bool.and_eq_true,decide_eq_true_eq] at hB
  obtain ⟨hr,hB⟩:=hB
  refine ⟨fun h1=>absurd h1 (by rw [hr];simp),fun i hi=> ?_⟩
  rw [hr] at hi
  obtain rfl:i=k:=by simpa using hi
  have hw:wpOpIn F m P ops Q' i (wpListIn F m P ops Q' l) a w:=by unfold wpOpIn;rw [h0];exact h
  exact wpOpIn_mono (fun a' w' h'=>tK l (i+1) _ a' w' (fun j=>by have:=hl (j+1);rw [List.getElem?_cons_succ] at this;rw [this];congr 1;omega) hB h') hw
theorem vK {o:Oper} {m:Made} (h:eY P call o st=some m):∀c,o.op≠ .defer c:=by
 intro c ho
 simp [eY,ho,quiet,B9] at h
theorem Ex {F:Fence} (E:iG F) (m:Nat) (hC:aI P call) {Q:Exit→Act→World→Prop} (T:Told P call ops.toList st n bB ms sT) (hn:n<ops.size) (hs:Region.sinkB .any ops n=true) (hc:Region.chainB .any ops n=true) (hq:Region.seqB .any ops (ops.size - n) n (pX ops.size n)=true)
  (mS:∀i o,i<n→ops[i]? =some o→m9 ops.toList n i o=true) (hinj:∀i j,i<n→j<n→bB i=bB j→i=j) (hd:∀i,i<n→bB i<N)
  (zV:∀i,i<n→aJ st.gr (.s (bB i))=none) (xP:∀i,i<n→¬ee st (bB i)) (vf:∀j,j<n→jH (ms j).v=false)
  (My:∀listed a w sL Pr bk,(∀j,j<n→cG listed j)→JJ base w0 aN N aS st n bB ms listed a w sL Pr bk→wpListIn F m P ops Q (ops.toList.drop n) a w):
  ∀(f:Nat) (listed:Array Bool) (a:Act) (w:World) (sL:St) (Pr:aC) (bk:Key→Nat),cnt n listed=f→HeadInv .any ops n listed→JJ base w0 aN N aS st n bB ms listed a w sL Pr bk→wpAnyIn F m P .any ops Q (f+(ops.size - n)) listed a w
 |0,listed,a,w,sL,Pr,bk,Dw,inv,H=>by
  have hall:=HK Dw
  have hl:listed=pX ops.size n:=by
   apply Array.ext_getElem?
   intro i
   have hsz:=inv.size
   unfold pX
   simp only [List.getElem?_toArray,List.getElem?_map]
   by_cases h:i<ops.size
   · rw [List.getElem?_range h]
     simp only [Option.map_some]
     have hlt:i<listed.size:=by omega
     rw [Array.getElem?_eq_getElem hlt]
     congr 1
     by_cases hin:i<n
     · have:=hall i hin
       unfold cG at this
       simp [hlt] at this
       simp [this,hin]
     · have:=inv.tail i (by omega) h
       simp [hlt] at this
       simp [this,hin]
   · rw [Array.getElem?_eq_none (by omega),List.getElem?_eq_none (by simp;omega)];rfl
  have hlen:(ops.toList.drop n).length=ops.size - n:=by simp
  have:=tK (F:=F) (m:=m) (P:=P) (Q':=Q) (ops.toList.drop n) n listed a w (fun j=>by simp [List.getElem?_drop]) (by rw [hlen,hl];exact hq) (My listed a w sL Pr bk hall H)
  rw [hlen] at this
  rw [Nat.zero_add];exact this
 |f+1,listed,a,w,sL,Pr,bk,Dw,inv,H=>by
  obtain ⟨i0,M5,JQ⟩:=HJ Dw
  have hsz:n≤listed.size:=by rw [inv.size];omega
  have hun:∀i,i<n→¬cG listed i→listed.getD i true=false:=fun i hi ho=>getD_in (by omega) (by unfold cG at ho;simpa using ho)
  have hne:∀d i,i=d→i<n→¬cG listed i→Region.ready .any ops listed≠[]:=by
   intro d
   induction d using Nat.strongRecOn with
   |_ d ih=>
    intro i hid hi ho
    subst hid
    obtain ⟨o,ho',_⟩:=T.dst i hi
    have JP:ops[i]? =some o:=by simpa using ho'
    by_cases hall:∀e∈o.after,Region.binds .any e=true→listed.getD e.on false=true
    · have:i∈Region.ready .any ops listed:=mem_ready.2 ⟨hun i hi ho,o,JP,hall⟩
      exact fun h=>by rw [h] at this;simp at this
    · have:∃e,e∈o.after∧Region.binds .any e=true∧¬listed.getD e.on false=true:=by
        apply Classical.byContradiction
        intro hno
        exact hall fun e he hb=>Classical.byContradiction fun hl=>hno ⟨e,he,hb,hl⟩
      obtain ⟨e,he,hb,hl⟩:=this
      have hlt:=(kZ (mS i o hi JP)).2.1 e he hb
      exact ih e.on hlt e.on rfl (by omega) hl
  rw [show f+1+(ops.size - n)=(f+(ops.size - n))+1 by omega]
  refine ⟨fun h=>absurd h (hne i0 i0 rfl M5 JQ),fun i hi=> ?_⟩
  have hin:i<n:=by
   rcases Nat.lt_or_ge i n with h|h
   · exact h
   · exact absurd hi (tail_waits hs hc hn inv _ i0 rfl M5 (hun i0 M5 JQ) i h)
  obtain ⟨hgt,o,ho,hall⟩:=mem_ready.1 hi
  have hoff:¬cG listed i:=by unfold cG;rw [getD_both hgt];simp
  have hS:=LI T H hin ho (mS i o hin ho) hall inv hoff vf xP
  obtain ⟨b,hb,JM,MI⟩:=T.step i hin o (by simpa using ho)
  have hw:=lN (ops:=ops) H.inv (BR T H hin (mS i o hin ho) hall hb)
  have MS:o.dst=some (bB i):=by
   obtain ⟨o2,JP,rz⟩:=T.dst i hin
   have:o2=o:=by
    have h3:ops[i]? =some o2:=by simpa using JP
    rw [ho] at h3;exact (Option.some.inj h3).symm
   rw [←this];exact rz
  have go:∀v w' aD,Fw w Pr w' aD→dy base w' aD bk sL a { v:=gj (ms i).v,gr:=none,tg:=(ms i).tg} v→
   (∀cs s,(ms i).v= .bX cs s→uB w w' aD v cs s)→
   wpAnyIn F m P .any ops Q (f+(ops.size - n)) (listed.setIfInBounds i true) (a.put o.dst v) w':=by
   intro v w' aD hf hm hnew
   obtain ⟨QW,aQ,H'⟩:=H.next hin hsz hoff hinj (hd i hin) (zV i hin) (xP i hin) hf hm (vf i hin) hnew
   rw [MS]
   exact Ex E m hC T hn hs hc hq mS hinj hd zV xP vf My f _ _ _ _ _ _ (KQ hin hsz hoff Dw) (inv.set hi hin) H'
  unfold wpOpIn
  simp only [ho]
  rw [hw]
  cases b with
  |true=>
   simp only [if_true]
   exact mE E (vK (JM rfl)) (Gk hC H.inv hS (JM rfl) _ Q fun v w' aD hf hm hx hnew=>go v w' aD hf hm hnew)
  |false=>
   simp only [Bool.false_eq_true,if_false]
   have he:=MI rfl
   refine ⟨fun f _=>E.fn f, ?_⟩
   refine go undef w Pr (Fw.refl H.inv.bL) ?_ (fun cs s e=>by rw [he] at e;simp [fN] at e)
   rw [he]
   exact bA (Rp.aG .nil)
end
end Go.Proofs.YtibbgjafjhcemaaDoor.Cul
namespace Go.Proofs.YtibbgjafjhcemaaDoor.Cul
open Go Go.RowKit
def nT (x:Nat×AV):Nat×AV:=(x.1,gj x.2)
def eJ (s:St):St:={ s with sl:=s.sl.map nT}
theorem ya (s:St) (t:Nat):look (eJ s).sl t=(look s.sl t).map gj:=bT nT (fun _ v=>gj v) (fun _=>rfl) s.sl t
theorem qX {α β:Type} (f:Nat×α→Nat×β) (hf:∀x,(f x).1=x.1) (d:Nat):∀l:List (Nat×α),bH (l.map f) d=(bH l d).map f
 |[]=>rfl
 |x::l=>by
  have h:=hf x
  cases hx:f x with
  |mk k v=>
   rw [hx] at h
   obtain ⟨k',v'⟩:=x
   simp only at h;subst h
   simp only [List.map_cons,hx,bH,qX f hf d l]
   split<;>simp [hx]
theorem xU (d:Nat) (x:Nat×AV):dG d (nT x)=nT (dG d x):=by
 obtain ⟨k,v⟩:=x
 have h1:bu d (gj v)=bu d v:=by cases v<;>rfl
 show (k,if bu d (gj v)=true then AV.dead else gj v)=(k,gj (if bu d v=true then AV.dead else v))
 rw [h1]
 by_cases h:bu d v=true
 · rw [if_pos h,if_pos h];rfl
 · rw [if_neg h,if_neg h]
theorem Ip (s:St) (d:Nat) (v:AV) (hv:gj v=v):(eJ s).put (some d) v=eJ (s.put (some d) v):=by
 simp only [St.put,eJ,List.map_cons,St.mk.injEq,and_true,true_and]
 rw [qX nT (fun _=>rfl)]
 simp only [List.map_map]
 have e0:=xU d (d,v)
 have e1:nT (d,v)=(d,v):=by simp [nT,hv]
 rw [e1] at e0
 rw [←e0]
 congr 1
 apply List.map_congr_left
 intro x _
 exact xU d x
theorem DP (d:Nat) (v:AV):iD d (gj v)=iD d v:=by cases v<;>rfl
theorem Bx {s s':St} {d:Nat} {cs:List PV} {v:AV} (hv:gj v=v) (h:s.dw d cs v=some s'):(eJ s).dw d cs v=some (eJ s')∧s'.sl=(s.put (some d) v).sl:=by
 simp only [St.dw] at h ⊢
 rw [Ip s d v hv]
 have e:(bH (eJ (s.put (some d) v)).sl d).all (fun x=>iD d x.2)=(bH (s.put (some d) v).sl d).all (fun x=>iD d x.2):=by
  simp only [eJ]
  rw [qX nT (fun _=>rfl),List.all_map]
  congr 1
  funext x
  exact DP d x.2
 rw [e]
 split at h
 · rename_i hc
   rw [if_pos hc]
   simp only [Option.some.injEq] at h
   subst h
   exact ⟨rfl,rfl⟩
 · simp at h
section
variable {P:Program} {base:Nat} {w w0:World} {Pr aN:aC} {bk:Key→Nat} {st sL:St} {a:Act} {N n:Nat} {bB:Nat→Nat} {ms:Nat→Made} {sT:Nat→St} {listed:Array Bool} {ops:Array Oper} {call:Cl} {aS:ew}
def pK (d:Nat):Option (Nat×Nat)→AV
 |none=> .bp d 0
 |some (sz,n)=> .bs d 0 sz n
structure SS (base:Nat) (w:World) (Pr:aC) (bk:Key→Nat) (s:St) (a:Act) (N:Nat):Prop where
 inv:Inv base w Pr bk (eJ s) a N
 new:∀t cs p,look s.sl t=some (.bX cs p)→∃b,JC base a w Pr t b cs p∧∀x,live (eJ s) x→bk x≠b
 apart:∀t u cs ds p q,t≠u→look s.sl t=some (.bX cs p)→look s.sl u=some (.bX ds q)→(a.tmps[t]?).bind pM≠(a.tmps[u]?).bind pM
theorem SS.box {s s':St} (H:SS base w Pr bk s a N) {d:Nat} {cs:List PV} {sp:Option (Nat×Nat)} (hd:look s.sl d=some (.bX cs sp)) (h:s.dw d cs (pK d sp)=some s'):
  (∃aQ,SS base w Pr aQ s' a N∧∀k,k≠d→aQ (.bx k)=bk (.bx k))∧∀t ds p,look s'.sl t=some (.bX ds p)→t≠d∧look s.sl t=some (.bX ds p):=by
 have u7:bu d (pK d sp)=false:=by cases sp<;>rfl
 obtain ⟨h1,h2⟩:=Bx (by cases sp<;>rfl) h
 obtain ⟨b,hn,hfr⟩:=H.new d cs sp hd
 obtain ⟨c,T,vs,e1,hpre,e2,e3⟩:=hn.heap
 obtain ⟨u,mW,ji⟩:=hn.at_
 have VW:d<N:=by rw [←H.inv.size];exact (Array.getElem?_eq_some_iff.1 mW).1
 obtain ⟨aQ,I',hl,hbk⟩:=H.inv.dw (uJ:=pK d sp) (v0:=u) VW e1 hpre hn.lo hfr hn.free e2 e3 u7 (by cases sp<;>simp [pK]) (fun tI a2 gA t k1 k2=>by
  cases sp with
  |none=>have hu:u= .pointer (some ⟨b,0,none⟩):=ji;subst hu;simp only [pK,dJ];rw [k2]
  |some x=>
   obtain ⟨sz,m⟩:=x
   obtain ⟨cap,c',T',g1,g2,g3,g4,g5,g6⟩:=ji
   exact ⟨0,cap,_,c',T',by rw [k2];exact g1, .inl rfl,k1,by omega,g2,g3,by rw [k2];exact g5,by omega⟩) h1
 rw [uv mW] at I'
 have hnp:∀t ds p,look s'.sl t=some (.bX ds p)→t≠d∧look s.sl t=some (.bX ds p):=by
  intro t ds p ht
  rw [h2,jI] at ht
  by_cases e:t=d
  · rw [if_pos e] at ht;cases sp<;>simp [pK,bu] at ht
  · rw [if_neg e] at ht
    refine ⟨e, ?_⟩
    cases hq:look s.sl t with
    |none=>simp [hq] at ht
    |some x=>
     simp only [hq,Option.map_some,Option.some.injEq] at ht
     split at ht
     · simp at ht
     · rw [ht]
 refine ⟨⟨aQ,⟨I',fun t ds p ht=> ?_,fun t u ds es p q htu ht hu=>H.apart t u ds es p q htu (hnp t ds p ht).2 (hnp u es q hu).2⟩,hbk⟩,hnp⟩
 obtain ⟨JU,ht'⟩:=hnp t ds p ht
 obtain ⟨b',hn',Rx⟩:=H.new t ds p ht'
 refine ⟨b',hn',fun x hx=> ?_⟩
 rcases hl x hx with ⟨_,e⟩|⟨hx',e⟩
 · rw [e]
   intro eb
   refine H.apart t d ds cs p sp JU ht' hd ?_
   obtain ⟨u',RR,RS⟩:=hn'.at_
   rw [RR,mW,Option.bind_some,Option.bind_some,ji.qF,RS.qF,eb]
 · rw [e];exact Rx x hx'
theorem n7:∀(l:List Oper) {s s2:St} {bk:Key→Nat},SS base w Pr bk s a N→(∀t cs p,look s.sl t=some (.bX cs p)→∃o∈l,o.dst=some t)→s.settle l=some s2→∃aQ,Inv base w Pr aQ s2 a N∧∀k,(∀o∈l,o.dst≠some k)→aQ (.bx k)=bk (.bx k)
 |[],s,s2,bk,H,hn,h=>by
  simp only [St.settle,Option.some.injEq] at h
  subst h
  have hh:∀t,look (eJ s).sl t=look s.sl t:=by
   intro t
   rw [ya]
   cases e:look s.sl t with
   |none=>rfl
   |some v=>
    cases v with
    |bX cs p=>obtain ⟨o,ho,_⟩:=hn t cs p e;simp at ho
    |_=>rfl
  refine ⟨bk,H.inv.less (fun t av ht=> .inl ((hh t).trans ht)) (fun k cs hk=>hk) (fun p z hp=>⟨hp, ?_⟩) (fun t q h=>h) (fun t u _ hx=> ?_) (fun _ _ _ _ _ _ e=>e),fun _ _=>rfl⟩
  · cases p with
    |s t=>exact (hh t).symm
    |c k o=>rfl
  · obtain ⟨sz,m,c,hx⟩:=hx
    exact ⟨sz,m,c,(hh u).symm.trans hx⟩
 |o::l,s,s2,bk,H,hn,h=>by
  simp only [St.settle,Option.bind_eq_some_iff] at h
  obtain ⟨s1,h1,h⟩:=h
  unfold St.CM at h1
  have go:∀{d:Nat} (hd:o.dst=some d) {cs:List PV} {sp:Option (Nat×Nat)} (hcs:look s.sl d=some (.bX cs sp)) (h1:s.dw d cs (pK d sp)=some s1),∃aQ,Inv base w Pr aQ s2 a N∧∀k,(∀o'∈o::l,o'.dst≠some k)→aQ (.bx k)=bk (.bx k):=by
   intro d hd cs sp hcs h1
   obtain ⟨⟨aQ,H',hbk⟩,hnp⟩:=H.box hcs h1
   obtain ⟨gA,I2,ck⟩:=n7 l H' (fun t ds p ht=>by
    obtain ⟨JU,ht'⟩:=hnp t ds p ht
    obtain ⟨o',ho',hd'⟩:=hn t ds p ht'
    rcases List.mem_cons.1 ho' with rfl|ho'
    · rw [hd] at hd';exact absurd (Option.some.inj hd').symm JU
    · exact ⟨o',ho',hd'⟩) h
   exact ⟨gA,I2,fun k hk=>(ck k (fun o' ho'=>hk o' (List.mem_cons_of_mem _ ho'))).trans (hbk k (fun e=>hk o (by simp) (by rw [hd,e])))⟩
  split at h1
  · rename_i d hd
    split at h1
    · rename_i cs hcs;exact go hd hcs h1
    · rename_i cs sz m hcs;exact go hd hcs h1
    · rename_i Nb Nc
      simp only [Option.some.injEq] at h1;subst h1
      obtain ⟨gA,I2,ck⟩:=n7 l H (fun t ds p ht=>by
       obtain ⟨o',ho',hd'⟩:=hn t ds p ht
       rcases List.mem_cons.1 ho' with rfl|ho'
       · rw [hd] at hd'
         rw [Option.some.inj hd'] at Nb Nc
         cases p with
         |none=>exact absurd ht (Nb ds)
         |some x=>exact absurd ht (Nc ds x.1 x.2)
       · exact ⟨o',ho',hd'⟩) h
      exact ⟨gA,I2,fun k hk=>ck k (fun o' ho'=>hk o' (List.mem_cons_of_mem _ ho'))⟩
  · rename_i hd
    simp only [Option.some.injEq] at h1;subst h1
    obtain ⟨gA,I2,ck⟩:=n7 l H (fun t ds p ht=>by
     obtain ⟨o',ho',hd'⟩:=hn t ds p ht
     rcases List.mem_cons.1 ho' with rfl|ho'
     · rw [hd] at hd';simp at hd'
     · exact ⟨o',ho',hd'⟩) h
    exact ⟨gA,I2,fun k hk=>ck k (fun o' ho'=>hk o' (List.mem_cons_of_mem _ ho'))⟩
theorem JJ.done (T:Told P call ops.toList st n bB ms sT) (H:JJ base w0 aN N aS st n bB ms listed a w sL Pr bk) (hall:∀j,j<n→cG listed j) (hinj:∀i j,i<n→j<n→bB i=bB j→i=j):SS base w Pr bk (sT n) a N∧∀t cs p,look (sT n).sl t=some (.bX cs p)→∃j,j<n∧bB j=t:=by
 have hlk:∀t,look (eJ (sT n)).sl t=look sL.sl t∧look (sT n).tg t=look sL.tg t∧((∃j,j<n∧bB j=t∧look (sT n).sl t=some (ms j).v)∨(∀cs p,look (sT n).sl t≠some (.bX cs p))):=by
  intro t
  rw [ya]
  by_cases h:∃j,j<n∧bB j=t
  · obtain ⟨j,hj,e⟩:=h
    have h1:=T.done n (Nat.le_refl _) j hj
    have h2:=H.on j hj (hall j hj)
    rw [e] at h1 h2
    exact ⟨by rw [h1.1,h2.1];rfl,by rw [h1.2,h2.2], .inl ⟨j,hj,e,h1.1⟩⟩
  · have hne:∀j,j<n→bB j≠t:=fun j hj e=>h ⟨j,hj,e⟩
    have h1:=T.rest n (Nat.le_refl _) t hne
    have h2:=H.off t (fun j hj _=>hne j hj)
    have hnn:∀cs p,look st.sl t≠some (.bX cs p):=by
     intro cs p e
     rw [←h2.1] at e
     obtain ⟨v,_,hr⟩:=H.inv.slots t _ e
     exact hr
    refine ⟨?_,by rw [h1.2,h2.2], .inr (fun cs p=>by rw [h1.1];exact hnn cs p)⟩
    rw [h1.1,h2.1]
    cases e:look st.sl t with
    |none=>rfl
    |some v=>cases v<;>first|rfl|exact absurd e (hnn _ _)
 have hb:=T.bx n (Nat.le_refl _)
 have dj:(eJ (sT n)).bx=sL.bx:=hb.1.trans H.bx.symm
 have dO:(eJ (sT n)).gr=sL.gr:=hb.2.trans H.gr.symm
 have bU:∀x,live (eJ (sT n)) x→live sL x:=by
  intro x hx
  cases x with
  |bx k=>obtain ⟨cs,h⟩:=hx;exact ⟨cs,dj ▸h⟩
  |sx t=>
   rcases hx with ⟨sz,m,c,h⟩|⟨z,h⟩
   · exact .inl ⟨sz,m,c,(hlk t).1 ▸h⟩
   · exact .inr ⟨z,dO ▸h⟩
  |cx k o=>obtain ⟨z,h⟩:=hx;exact ⟨z,dO ▸h⟩
 have hnp:∀t cs p,look (sT n).sl t=some (.bX cs p)→∃j,j<n∧bB j=t∧(ms j).v= .bX cs p:=by
  intro t cs p ht
  rcases (hlk t).2.2 with ⟨j,hj,e,h⟩|h
  · rw [ht] at h;exact ⟨j,hj,e,(Option.some.inj h).symm⟩
  · exact absurd ht (h cs p)
 refine ⟨⟨?_,fun t cs p ht=> ?_,fun t u cs ds p q htu ht hu=> ?_⟩,fun t cs p ht=>by obtain ⟨j,hj,e,_⟩:=hnp t cs p ht;exact ⟨j,hj,e⟩⟩
 · refine H.inv.less (fun t av ht=> .inl ((hlk t).1 ▸ht)) (fun k cs hk=>dj ▸hk) (fun p z hp=>⟨dO ▸hp, ?_⟩) (fun t q h=>(hlk t).2.1 ▸h) (fun t u _ hx=> ?_) (fun t av j _ _ cs e=>by show look (eJ (sT n)).bx j=some cs;rw [←e,←dj])
   · cases p with
     |s t=>exact (hlk t).1
     |c k o=>show look (eJ (sT n)).bx k=look sL.bx k;rw [dj]
   · obtain ⟨sz,m,c,hx⟩:=hx
     exact ⟨sz,m,c,(hlk u).1.trans hx⟩
 · obtain ⟨j,hj,e,hv⟩:=hnp t cs p ht
   obtain ⟨b,h1,h2⟩:=H.new j cs p hj (hall j hj) hv
   exact ⟨b,e ▸h1,fun x hx=>h2 x (bU x hx)⟩
 · obtain ⟨j,hj,e,hv⟩:=hnp t cs p ht
   obtain ⟨k,hk,e',Ad⟩:=hnp u ds q hu
   have oQ:j≠k:=fun h=>htu (by rw [←e,←e',h])
   have:=H.apart j k cs ds p q hj hk oQ (hall j hj) (hall k hk) hv Ad
   rw [e,e'] at this;exact this
end
end Go.Proofs.YtibbgjafjhcemaaDoor.Cul
namespace Go.Proofs.YtibbgjafjhcemaaDoor.Cul
open Go Go.RowKit
section
variable {P:Program} {base:Nat} {w w0:World} {Pr aN:aC} {bk:Key→Nat} {st st':St} {a:Act} {N:Nat} {ops:Array Oper} {call:Cl} {aS:ew}
theorem AQ {o:Oper} {m:Made} (h:eY P call o st=some m):jH m.v=false:=by
 unfold eY at h
 split at h
 · unfold oJ at h
   split at h
   · split at h
     · simp at h
     · simp only [Option.bind_eq_some_iff] at h
       obtain ⟨gm,_,r,_,h⟩:=h
       split at h
       · split at h
         · simp only [Option.some.injEq] at h;subst h;rfl
         · simp at h
       · simp at h
   · simp at h
 split at h
 · split at h
   · simp only [Option.some.injEq] at h;subst h;rfl
   · simp only [Option.some.injEq] at h;subst h;rfl
   · simp only [Option.some.injEq] at h;subst h;rfl
   · simp at h
 · simp only [Option.map_eq_some_iff] at h
   obtain ⟨z,_,rfl⟩:=h;rfl
 · simp only [Option.bind_eq_some_iff] at h
   obtain ⟨m0,_,h⟩:=h
   split at h
   · simp at h
   · rename_i hx
     simp only [Option.some.injEq] at h;subst h;simpa using hx
theorem HI (n m:Nat):cnt n (Array.replicate m false)=n:=by
 unfold cnt
 rw [List.filter_eq_self.2 (fun j _=>by rw [getD_replicate_false];rfl),List.length_range]
theorem Ce (I:Inv base w Pr bk st a N):Fw w Pr w.drew Pr:=⟨(Below.refl _ _).drew,fun _ _ h=>h,fun _ _ _ h=>h,fun b o h=>by simpa using I.bL b o h⟩
theorem ym {F:Fence} (E:iG F) (m:Nat) (hC:aI P call) (hm:P.follows .mixedOrders=true) {id:Nat} {dr:Bool} {Q:Exit→Act→World→Prop} (hok:mb N ops dr=true) (xO:∀o∈ops.toList,∀d,o.dst=some d→aS.k d=none) (G:Good base w0 aN N aS st a w) (h:kD P call ops.toList dr st=some st')
  (hQ:∀a' w',Good base w0 aN N aS st' a' w'→Q .normal a' w'):(Code.region id ops dr).wpIn F m P Q a w:=by
 simp only [mb,Bool.and_eq_true] at hok
 obtain ⟨j8,th⟩:=hok
 simp only [Bool.or_eq_true,Bool.not_eq_true'] at th
 have hN:∀o∈ops.toList,∀d,o.dst=some d→d<N∧aS.k d=none:=by
  intro o ho d hd
  have:=List.all_eq_true.1 j8 o ho
  rw [hd] at this;exact ⟨by simpa using this,xO o ho d hd⟩
 cases dr with
 |false=>
  simp only [kD,Bool.false_eq_true,if_false] at h
  exact wpIn_region_list (su E m hC hQ ops.toList st a w hN G h)
 |true=>
  simp only [kD,if_true] at h
  split at h
  · rename_i Ry
    obtain ⟨Rz,Qu⟩:=(Bool.and_eq_true _ _ ▸Ry:_∧_)
    obtain ⟨hfr,Fk⟩:=(Bool.and_eq_true _ _ ▸Rz:_∧_)
    replace th:AA ops=true:=by
     rcases th with (h1|h1)|h1
     · exact absurd h1 (by decide)
     · exact h1
     · rw [h1] at Qu;simpa [AA] using Qu
    simp only [Option.bind_eq_some_iff] at h
    obtain ⟨s,hs,s2,js,h⟩:=h
    replace th:mD (u9 call ops.toList) ops=true:=by
     unfold zU at Fk
     unfold u9 at Fk ⊢
     cases hx:ops.toList.any (B9 call) with
     |true=>rw [hx] at Fk;simp only [Bool.not_true,Bool.false_or,if_true] at Fk ⊢;exact Fk
     |false=>simp only [Bool.false_eq_true,if_false];exact th
    unfold mD at th
    generalize hn:u9 call ops.toList=n at*
    simp only [Bool.and_eq_true,decide_eq_true_eq] at th
    obtain ⟨⟨⟨⟨hnlt,Po⟩,hchain⟩,hseq⟩,Dy⟩:=th
    have mS:∀i o,i<n→ops[i]? =some o→m9 ops.toList n i o=true:=by
     intro i o hi ho
     have:=List.all_eq_true.1 Dy i (List.mem_range.2 hi)
     rw [ho] at this
     simp only [Bool.and_eq_true] at this
     exact this.2
    have hlen:(ops.toList.take n).length=n:=by simp;omega
    have yR:∀i,i<n→(ops.toList.take n)[i]? =ops.toList[i]? :=fun i hi=>by rw [List.getElem?_take,if_pos hi]
    have hfresh:∀i o,i<n→ops.toList[i]? =some o→pQ st o=true:=by
     intro i o hi ho
     refine List.all_eq_true.1 hfr o (List.mem_of_getElem? (i:=i) ?_)
     rw [yR i hi];exact ho
    obtain ⟨bB,Ru⟩:∃bB:Nat→Nat,∀i o d,ops.toList[i]? =some o→o.dst=some d→bB i=d:=⟨fun i=>((ops.toList[i]?).bind (·.dst)).getD 0,fun i o d ho hd=>by simp only [ho,Option.bind_some,hd,Option.getD_some]⟩
    have oO:∀i o,i<n→ops.toList[i]? =some o→o.dst=some (bB i)∧aJ st.gr (.s (bB i))=none∧¬ee st (bB i):=by
     intro i o hi ho
     have:=hfresh i o hi ho
     unfold pQ at this
     cases hd:o.dst with
     |none=>rw [hd] at this;simp at this
     |some d=>
      rw [hd] at this
      simp only [Bool.and_eq_true,Option.isNone_iff_eq_none] at this
      rw [Ru i o d ho hd]
      refine ⟨rfl,this.1,fun ⟨sz,m,c,hx⟩=> ?_⟩
      rw [hx] at this;simp at this
    have rA:∀i,i<n→∃o,ops.toList[i]? =some o:=fun i hi=>⟨_,List.getElem?_eq_getElem (by simp;omega)⟩
    have hinj:∀i j,i<n→j<n→bB i=bB j→i=j:=by
     intro i j hi hj e
     obtain ⟨oi,Qr⟩:=rA i hi
     obtain ⟨oj,vg⟩:=rA j hj
     have:=((kZ (mS i oi hi (by simpa using Qr))).2.2 j hj oj (bB j) vg (oO j oj hj vg).1).2
     rcases this with this|this
     · exact this.symm
     · exact absurd ((oO i oi hi Qr).1.trans (by rw [e])) this
    obtain ⟨ms,sT,t1,t2,t3,t4,t5,t6⟩:=told (P:=P) (call:=call) (ops:=ops.toList) (s:=s) (bB:=bB) (ops.toList.take n) st
     (fun i o ho=>by
      have hi:i<n:=by have:=(List.getElem?_eq_some_iff.1 ho).1;rw [hlen] at this;exact this
      exact (oO i o hi (by rw [←yR i hi];exact ho)).1)
     (fun i j hi hj e=>hinj i j (by omega) (by omega) e) hs
    rw [hlen] at t1 t3 t4 t5 t6
    have T:Told P call ops.toList st n bB ms sT:=by
     refine ⟨fun i hi=> ?_,fun i hi o ho=>t3 i hi o (by rw [yR i hi];exact ho),t4,t5,t6⟩
     obtain ⟨o,ho⟩:=rA i hi
     exact ⟨o,ho,(oO i o hi ho).1⟩
    have vf:∀j,j<n→jH (ms j).v=false:=by
     intro j hj
     obtain ⟨o,ho⟩:=rA j hj
     obtain ⟨b,_,JM,MI⟩:=T.step j hj o ho
     cases b with
     |true=>exact AQ (JM rfl)
     |false=>rw [MI rfl];rfl
    obtain ⟨Pr,bk,I,oN⟩:=G
    have jQ:=Ce I
    have J0:JJ base w0 aN N aS st n bB ms (Array.replicate ops.size false) a w.drew st Pr bk:=by
     have hno:∀j,¬cG (Array.replicate ops.size false) j:=fun j h=>by unfold cG at h;rw [getD_replicate_false] at h;simp at h
     exact ⟨I.fw jQ,⟨oN.1.trans (jQ.gO.mono I.hb),oN.2.1,oN.2.2.1.trans jQ.ko,oN.2.2.2.1,fun b o v h1 h2=>oN.2.2.2.2.1 b o v h1 h2,oN.2.2.2.2.2⟩,rfl,rfl,fun j _ hl=>absurd hl (hno j),fun t _=>⟨rfl,rfl⟩,fun j _ _ _ hl=>absurd hl (hno j),fun i _ _ _ _ _ _ _ _ hl=>absurd hl (hno i)⟩
    have RY:HeadInv .any ops n (Array.replicate ops.size false):=
     ⟨by simp,fun j oj _ hl=>(by rw [getD_replicate_false] at hl;cases hl),fun t _ ht=>getD_in (by simpa using ht) (getD_replicate_false _ _)⟩
    refine wpIn_region_any hm ?_
    have:=Ex (Q:=Q) E m hC T hnlt Po hchain hseq mS hinj
     (fun i hi=>by obtain ⟨o,ho⟩:=rA i hi;exact (hN o (List.mem_of_getElem? ho) _ (oO i o hi ho).1).1)
     (fun i hi=>by obtain ⟨o,ho⟩:=rA i hi;exact (oO i o hi ho).2.1)
     (fun i hi=>by obtain ⟨o,ho⟩:=rA i hi;exact (oO i o hi ho).2.2) vf
     (fun listed a' w' sL aD aQ hall H=>by
      obtain ⟨P6,hnp⟩:=H.done T hall hinj
      rw [t1] at P6 hnp
      obtain ⟨gA,I2,ck⟩:=n7 (ops.toList.take n) P6 (fun t cs p ht=>by
       obtain ⟨j,hj,e⟩:=hnp t cs p ht
       obtain ⟨o,ho⟩:=rA j hj
       exact ⟨o,List.mem_of_getElem? (i:=j) (by rw [yR j hj];exact ho),by rw [←e];exact (oO j o hj ho).1⟩) js
      exact su E m hC hQ (ops.toList.drop n) s2 a' w' (fun o ho=>hN o (List.mem_of_mem_drop ho)) ⟨aD,gA,I2,H.chain.1,H.chain.2.1,H.chain.2.2.1,fun k b e=>(ck k (fun o ho e2=>by rw [xO o (List.mem_of_mem_take ho) k e2] at e;simp at e)).trans (H.chain.2.2.2.1 k b e),H.chain.2.2.2.2⟩ h)
     n _ a w.drew st Pr bk (HI n ops.size) RY J0
    rw [show n+(ops.size - n)=ops.size by omega] at this
    exact this
  · simp at h
theorem xM {α β:Type} {f:α→Option (List β)}:∀{r:List α} {ls:List β},r.foldr (fun i acc=>(f i).bind fun l=>acc.map (l++ ·)) (some [])=some ls→∀i∈r,∃l,f i=some l∧∀x∈l,x∈ls
 |[],ls,h,i,hi=>by simp at hi
 |j::r,ls,h,i,hi=>by
  simp only [List.foldr_cons,Option.bind_eq_some_iff,Option.map_eq_some_iff] at h
  obtain ⟨l,hl,QI,h2,rfl⟩:=h
  rcases List.mem_cons.1 hi with rfl|hi
  · exact ⟨l,hl,fun x hx=>List.mem_append_left _ hx⟩
  · obtain ⟨l2,h3,h4⟩:=xM h2 i hi
    exact ⟨l2,h3,fun x hx=>List.mem_append_right _ (h4 x hx)⟩
theorem DV {ks:List Nat} {ls:List St} {s:St} (h:oneOf ks ls=some s):∀x∈ls,x.bK ks=s:=by
 cases ls with
 |nil=>simp [oneOf] at h
 |cons y l=>
  simp only [oneOf] at h
  split at h
  · rename_i hall
    simp only [Option.some.injEq] at h
    subst h
    intro x hx
    rcases List.mem_cons.1 hx with rfl|hx
    · rfl
    · exact hall x hx
  · simp at h
theorem N7 {F:Fence} (E:iG F) (m:Nat) (hC:aI P call) {Q:Exit→Act→World→Prop} {K:Act→World→Prop} {i:Nat} (hN:∀o∈ops.toList,∀d,o.dst=some d→d<N∧aS.k d=none) (G:Good base w0 aN N aS st a w) (h:ze (lf P call) ops i st=some st')
  (hK:∀a' w',Good base w0 aN N aS st' a' w'→K a' w'):wpOpIn F m P ops Q i K a w:=by
 obtain ⟨Pr,bk,I,g9⟩:=G
 simp only [ze,Option.bind_eq_some_iff] at h
 obtain ⟨o,ho,b,hb,h⟩:=h
 have hmem:o∈ops.toList:=List.mem_of_getElem? (i:=i) (by simpa using ho)
 have hw:=lN (ops:=ops) I hb
 unfold wpOpIn
 simp only [ho]
 rw [hw]
 cases b with
 |true=>
  simp only [if_true]
  exact mE E (jZ h) (Good.step g9 (fun d hd=>(hN o hmem d hd).2) (uH hC I (fun d hd=>(hN o hmem d hd).1) h) hK)
 |false=>
  simp only [Bool.false_eq_true,if_false]
  simp only [Option.some.injEq] at h
  subst h
  obtain ⟨aQ,I',hbk⟩:=xw I (fun d hd=>(hN o hmem d hd).1)
  exact ⟨fun f _=>E.fn f,hK _ _ ⟨Pr,aQ,I',g9.1,g9.2.1,g9.2.2.1,fun k b e=>(hbk k).trans (g9.2.2.2.1 k b e),g9.2.2.2.2.1,fun ds e=>by
   have:=g9.2.2.2.2.2 ds e
   rw [←this];cases o.dst<;>rfl⟩⟩
theorem AI {F:Fence} (E:iG F) (m:Nat) (hC:aI P call) {Q:Exit→Act→World→Prop} (hN:∀o∈ops.toList,∀d,o.dst=some d→d<N∧aS.k d=none):
  ∀(g:Nat) (listed:Array Bool) (st:St) (a:Act) (w:World) (ls:List St),Good base w0 aN N aS st a w→pG (lf P call) ops g listed st=some ls→(∀s∈ls,∀a' w',Good base w0 aN N aS s a' w'→Q .normal a' w')→wpAnyIn F m P .any ops Q g listed a w
 |0,listed,st,a,w,ls,G,h,hQ=>by
  simp only [pG] at h
  split at h
  · rename_i he
    simp only [Option.some.injEq] at h
    subst h
    exact ⟨List.isEmpty_iff.1 he,hQ st (by simp) a w G⟩
  · simp at h
 |g+1,listed,st,a,w,ls,G,h,hQ=>by
  simp only [pG] at h
  split at h
  · simp at h
  · rename_i he
    refine ⟨fun e=>absurd (List.isEmpty_iff.2 e) he,fun i hi=> ?_⟩
    obtain ⟨l,h1,h2⟩:=xM h i hi
    simp only [Option.bind_eq_some_iff] at h1
    obtain ⟨s1,h3,h4⟩:=h1
    exact N7 E m hC hN G h3 fun a' w' G'=>AI E m hC hN g _ s1 a' w' l G' h4 fun s hs=>hQ s (h2 s hs)
theorem Good.drew (G:Good base w0 aN N aS st a w):Good base w0 aN N aS st a w.drew:=by
 obtain ⟨Pr,bk,I,oN⟩:=G
 have jQ:=Ce I
 exact ⟨Pr,bk,I.fw jQ,oN.1.trans (jQ.gO.mono I.hb),oN.2.1,oN.2.2.1.trans jQ.ko,oN.2.2.2.1,fun b o v h1 h2=>oN.2.2.2.2.1 b o v h1 h2,oN.2.2.2.2.2⟩
theorem Lt {F:Fence} (E:iG F) (m:Nat) (hC:aI P call) (hm:P.follows .mixedOrders=true) {id:Nat} {Q:Exit→Act→World→Prop} {ls:List St} (hok:mb N ops true=true) (xO:∀o∈ops.toList,∀d,o.dst=some d→aS.k d=none) (G:Good base w0 aN N aS st a w) (h:pG (lf P call) ops ops.size (Array.replicate ops.size false) st=some ls)
  (hQ:∀s∈ls,∀a' w',Good base w0 aN N aS s a' w'→Q .normal a' w'):(Code.region id ops true).wpIn F m P Q a w:=by
 simp only [mb,Bool.and_eq_true] at hok
 have hN:∀o∈ops.toList,∀d,o.dst=some d→d<N∧aS.k d=none:=by
  intro o ho d hd
  have:=List.all_eq_true.1 hok.1 o ho
  rw [hd] at this;exact ⟨by simpa using this,xO o ho d hd⟩
 exact wpIn_region_any hm (AI E m hC hN _ _ st a _ ls G.drew h hQ)
end
end Go.Proofs.YtibbgjafjhcemaaDoor.Cul
namespace Go.Proofs.YtibbgjafjhcemaaDoor.Cul
open Go Go.RowKit
section
variable {aS:ew} {P:Program} {base:Nat} {w w' w0:World} {Pr aN:aC} {bk:Key→Nat} {st:St} {a:Act} {N:Nat} {r:Nat}
def aC.less (Pr:aC) (r:Nat):aC:=fun b o=>Pr b o∧b≠r
theorem lC {o:Obj} (h:w.heap[r]? =some o) (hc:o.isCells=false) (i:Nat):w.cell? ⟨r,i,none⟩=none:=by
 unfold World.cell?
 simp only [h]
 cases o<;>simp_all [Obj.isCells]
mutual
theorem Rp.shrink (hr:∀i,w.cell? ⟨r,i,none⟩=none):∀{p:PV} {v:Value},Rp w Pr p v→Rp w (Pr.less r) p v
 |_,_, .lit h=> .lit h
 |_,_, .sl vj h1 hl hn hc hp=> .sl (aO.shrink hr vj) h1 hl hn hc (fun i hi=>⟨hp i hi,fun e=>by
  have:=hc i _ (List.getElem?_eq_getElem hi);rw [e,hr] at this;simp at this⟩)
 |_,_, .n8=> .n8
 |_,_, .el vj h1 hc hp=> .el (aO.shrink hr vj) h1 hc (fun i hi=>⟨hp i hi,fun e=>by
  have:=hc i _ (List.getElem?_eq_getElem hi);rw [e,hr] at this;simp at this⟩)
 |_,_, .fn vj=> .fn (aO.shrink hr vj)
 |_,_, .ag vj h1=> .ag (aO.shrink hr vj) h1
 |_,_, .aG vj=> .aG (aO.shrink hr vj)
theorem aO.shrink (hr:∀i,w.cell? ⟨r,i,none⟩=none):∀{cs:List PV} {vs:List Value},aO w Pr cs vs→aO w (Pr.less r) cs vs
 |_,_, .nil=> .nil
 |_,_, .cons h hs=> .cons (Rp.shrink hr h) (aO.shrink hr hs)
end
theorem DI (I:Inv base w Pr bk st a N) {x:Key} (hx:live st x):∃c T,w.heap[bk x]? =some (.cells c T (0,0)):=by
 cases x with
 |bx k=>obtain ⟨cs,h⟩:=hx;obtain ⟨⟨T,c,vs,h1,_⟩,_⟩:=I.boxes k cs h;exact ⟨_,T,h1⟩
 |sx t=>
  rcases hx with ⟨sz,n,cs,h⟩|⟨z,h⟩
  · obtain ⟨v,_,o,cap,vs,_,_,_,_,_,h6,_⟩:=I.slots t _ h
    obtain ⟨c,T,e,_⟩:=h6.there;exact ⟨c,T,e⟩
  · obtain ⟨_,_,_,_,_,_,h3,_⟩:=I.gQ t z h
    obtain ⟨c,T,e,_⟩:=h3.there;exact ⟨c,T,e⟩
 |cx k o=>
  obtain ⟨z,h⟩:=hx
  obtain ⟨_,_,_,_,_,_,_,_,h4,_⟩:=I.iA k o z h
  obtain ⟨c,T,e,_⟩:=h4.there;exact ⟨c,T,e⟩
theorem dJ.de {t:Nat} {av:AV} {v:Value} (k1:∀{p v},Rp w Pr p v→Rp w' (Pr.less r) p v) (k2:∀{cs vs},aO w Pr cs vs→aO w' (Pr.less r) cs vs)
  (hex:∀sz n cs,av= .ex sz n cs→w'.heap[bk (.sx t)]? =w.heap[bk (.sx t)]?) (j7:∀k c T,w.heap[bk (.bx k)]? =some (.cells c T (0,0))→∃c',w'.heap[bk (.bx k)]? =some (.cells c' T (0,0))∧c'.size=c.size) (h:dJ st a w Pr bk t av v):dJ st a w' (Pr.less r) bk t av v:=by
 cases av with
 |pv p=>exact k1 h
 |bp k off=>exact h
 |cl f caps=>
  obtain ⟨vs,h1,h2,h3⟩:=h
  refine ⟨vs,h1,h2,fun i c u hc hu=> ?_⟩
  have:=h3 i c u hc hu
  cases c with
  |pv p=>exact k1 this
  |bp k off=>exact this
 |ex sz n cs=>
  obtain ⟨o,cap,vs,h1,h2,h3,h4,h5,h6,h7⟩:=h
  have he:=hex sz n cs rfl
  exact ⟨o,cap,vs,h1,k2 h2,h3,h4,iU he h5,⟨h6.hz,h6.le,by obtain ⟨c,T,e1,e2⟩:=h6.there;exact ⟨c,T,he.trans e1,e2⟩,fun o' ho=>h6.pr o' ho.1⟩,fun o' ho=>h7 o' ho.1⟩
 |xr u=>exact h
 |xe u off=>exact h
 |bX _ _=>exact h
 |dead=>trivial
 |bs j off sz n=>exact h.world (j7 j)
 |mv f j off sz n=>obtain ⟨u,h1,h2⟩:=h;exact ⟨u,h1,h2.world (j7 j)⟩
 |tg j off sz n rest=>obtain ⟨u,us,h1,h2,h3⟩:=h;exact ⟨u,us,h1,h2.world (j7 j),k2 h3⟩
theorem Inv.de (I:Inv base w Pr bk st a N) {row:Option Nat} (hg:w.grownBy w' row) (hr:∀r',row=some r'→r'=r) {o:Obj} (ho:w.heap[r]? =some o) (hc:o.isCells=false) (hd:∀d∈a.defers,d≠{ target:= .collected r,args:= #[]}):
  Inv base w' (Pr.less r) bk st a N:=by
 have hnone:=lC ho hc
 have hsame:∀k,k<w.heap.size→k≠r→w'.heap[k]? =w.heap[k]? :=fun k hk hne=>hg.block k hk (fun e=>hne (hr k e.symm))
 have rE:∀x,live st x→bk x≠r:=fun x hx e=>by
  obtain ⟨c,T,h⟩:=DI I hx
  rw [e,ho] at h;cases h;simp [Obj.isCells] at hc
 have hlv:∀x,live st x→w'.heap[bk x]? =w.heap[bk x]? :=fun x hx=>hsame _ (I.own x hx).2 (rE x hx)
 have hK:Kp w (Pr.less r) w' (Pr.less r):=⟨fun _ _ h=>h,fun b i h=>World.cell?_of_block (w:=w) (hsame b (I.bL b i h.1) h.2)⟩
 have k1:∀{p v},Rp w Pr p v→Rp w' (Pr.less r) p v:=fun h=>Rp.mono hK (Rp.shrink hnone h)
 have k2:∀{cs vs},aO w Pr cs vs→aO w' (Pr.less r) cs vs:=fun h=>aO.mono hK (aO.shrink hnone h)
 have hroom:∀x,live st x→∀{o n cap sz},Room w Pr (bk x) o n cap sz→Room w' (Pr.less r) (bk x) o n cap sz:=fun x hx {o n cap sz} h=>
  ⟨h.hz,h.le,by obtain ⟨c,T,e1,e2⟩:=h.there;exact ⟨c,T,(hlv x hx).trans e1,e2⟩,fun o' ho=>h.pr o' ho.1⟩
 constructor
 · exact I.size
 · refine ⟨fun d zT=> ?_,I.defers.2⟩
   obtain ⟨D,e1,e2,e3⟩:=I.defers.1 d zT
   have hne:D≠r:=fun e=>hd d zT (by rw [e1,e])
   exact ⟨D,e1,(hsame D (Array.getElem?_eq_some_iff.1 e2).1 hne).trans e2,e3⟩
 · exact Nat.le_trans I.hb hg.size
 · exact fun b i h=>Nat.lt_of_lt_of_le (I.bL b i h.1) hg.size
 · intro t av ht
   obtain ⟨v,hv,cS⟩:=I.slots t av ht
   exact ⟨v,hv,dJ.de k1 k2 (fun sz n cs e=>hlv (.sx t) (.inl ⟨sz,n,cs,by rw [←e];exact ht⟩)) (fun j c T e=>⟨c,(hsame _ (Array.getElem?_eq_some_iff.1 e).1 (fun e2=>by rw [e2,ho] at e;cases e;simp [Obj.isCells] at hc)).trans e,rfl⟩) cS⟩
 · exact fun x hx=>⟨(I.own x hx).1,Nat.lt_of_lt_of_le (I.own x hx).2 hg.size⟩
 · exact I.inj
 · intro k cs hq
   obtain ⟨⟨T',c',us',e1,e0,e2,e3⟩,e4⟩:=I.boxes k cs hq
   exact ⟨⟨T',c',us',(hlv (.bx k) ⟨cs,hq⟩).trans e1,e0,k2 e2,e3⟩,fun o ho=>e4 o ho.1⟩
 · intro t z hz
   obtain ⟨o',n,cap,c,e1,e2,e3,e0⟩:=I.gQ t z hz
   exact ⟨o',n,cap,c,e1,e2,hroom (.sx t) (.inr ⟨z,hz⟩) e3,e0⟩
 · intro k i z hz
   obtain ⟨o',n,cap,c,di,e1,e2,e3,e4,e0⟩:=I.iA k i z hz
   exact ⟨o',n,cap,c,di,e1,e2,(World.cell?_of_block (w:=w) (hlv (.bx k) ⟨di,e1⟩)).trans e3,hroom (.cx k i) ⟨z,hz⟩ e4,e0⟩
 · intro t q ht hq
   rw [←I.tags t q ht hq]
   cases q with
   |s x=>rfl
   |c k i=>
    obtain ⟨z,hz⟩:=hq
    obtain ⟨o',n,cap,c,di,e1,e2,e3,e4,e0⟩:=I.iA k i z hz
    exact World.cell?_of_block (w:=w) (hlv (.bx k) ⟨di,e1⟩)
theorem KO.grown {w0 w w':World} {r0:Option Nat} (gq:KO w0 w) (hg:w.grownBy w' r0) (hr:∀r,r0=some r→w0.heap.size≤r):KO w0 w':=by
 have hb:∀k o,k<w0.heap.size→w.heap[k]? =some o→w'.heap[k]? =some o:=fun k o hk h=>
  (hg.block k (Array.getElem?_eq_some_iff.1 h).1 (fun e=>by have:=hr k e.symm;omega)).trans h
 exact ⟨⟨Nat.le_trans gq.size hg.size,fun k o h ho=>hb k o (Array.getElem?_eq_some_iff.1 h).1 (gq.same k o h ho)⟩,fun k c T fz h=>by
  obtain ⟨c',h3,h4⟩:=gq.sized k c T fz h
  exact ⟨c',hb k _ (Array.getElem?_eq_some_iff.1 h).1 h3,h4⟩⟩
theorem Inv.marks (I:Inv base w Pr bk st a N) {ds:List Deferred} (h:∀d∈ds,Mark base w d) (hn:ds.Nodup):Inv base w Pr bk st { a with defers:=ds} N:=
 ⟨I.size,⟨h,hn⟩,I.hb,I.bL,fun t av ht=>(by
   obtain ⟨v,hv,hr⟩:=I.slots t av ht
   exact ⟨v,hv,by cases av<;>exact hr⟩),I.own,I.inj,I.boxes,I.gQ,I.iA,fun t q ht hq=>(by
   have:=I.tags t q ht hq
   cases q<;>exact this)⟩
theorem xW {F:Fence} {n:Nat} {fn:Func} {R:Ending→World→Prop} (hb0:base=w0.heap.size) (hz:aS.ds=none) (hR:∀(tmps:Array Value) (w:World),Good base w0 aN N aS st { tmps:=tmps,defers:=[]} w→∃v,(results fn tmps).run P w= .ok v w∧R (.returned v) w):
  ∀(ds:List Deferred) (tmps:Array Value) (w:World),Good base w0 aN N aS st { tmps:=tmps,defers:=ds} w→LeavesInM F n P fn tmps R ds .returning w
 |[],tmps,w,G=>by
  obtain ⟨v,h1,h2⟩:=hR tmps w G
  exact ⟨v,h1,h2⟩
 |d::ds,tmps,w,G=>by
  obtain ⟨Pr,bk,I,hb,hp,gq,fo,hkc,_⟩:=G
  obtain ⟨D,e1,e2,e3⟩:=I.defers.1 d (by simp)
  have rD:=I.defers.2
  simp only [List.nodup_cons] at rD
  refine ⟨by simp, .inl ⟨D,_,by rw [e1],run_takeDeferred e2,xW hb0 hz hR ds tmps _ ?_⟩⟩
  have I1:=I.marks (ds:=ds) (fun d' hd'=>I.defers.1 d' (List.mem_cons_of_mem _ hd')) rD.2
  have hg:w.grownBy (w.putObj D (.deferred none)) (some D):=grownBy_putObj' w D _
  have I2:=I1.de hg (r:=D) (fun r' e=>by cases e;rfl) e2 rfl (fun d' hd' e=>rD.1 (by rw [e1,←e];exact hd'))
  refine ⟨_,bk,I2,hb.grown hg (Nat.le_trans (Nat.le_of_eq hb0) hb.size) (fun k e=>by cases e;exact e3),fun b o hlt h=>hp b o hlt h.1,⟨⟨Nat.le_trans gq.size (by simp),fun k o h ho=> ?_⟩,fun k c T fz h=> ?_⟩,fo,fun b o v h1 h2=> ?_,fun ds' e=>by rw [hz] at e;simp at e⟩
  rotate_left
  · obtain ⟨c',h3,h4⟩:=gq.sized k c T fz h
    have hk:k≠D:=fun e=>by
     have:=(Array.getElem?_eq_some_iff.1 h).1;omega
    exact ⟨c',by rw [World.putObj_heap_other hk];exact h3,h4⟩
  · obtain ⟨h3,h4⟩:=hkc b o v h1 h2
    have Qh:b≠D:=fun e=>by subst e;rw [lC e2 rfl] at h4;simp at h4
    exact ⟨⟨h3,Qh⟩,(World.cell?_of_block (w:=w) (a:=⟨b,o,none⟩) (World.putObj_heap_other Qh)).trans h4⟩
  have hk:k≠D:=fun e=>by
   have:=(Array.getElem?_eq_some_iff.1 h).1;omega
  rw [World.putObj_heap_other hk]
  exact gq.same k o h ho
end
end Go.Proofs.YtibbgjafjhcemaaDoor.Cul
namespace Go.Proofs.YtibbgjafjhcemaaDoor.Cul
open Go Go.RowKit
def iy (Pi:aC) (A B:World):Prop:=∀b o v,Pi b o→A.cell? ⟨b,o,none⟩=some v→B.cell? ⟨b,o,none⟩=some v
theorem iy.trans {Pi:aC} {A B C:World} (h:iy Pi A B) (k:iy Pi B C):iy Pi A C:=fun b o v h1 h2=>k b o v h1 (h b o v h1 h2)
theorem iy.de {Pi:aC} {W:World} {l:Nat} {o:Obj} (o':Obj) (h:W.heap[l]? =some o) (hc:o.isCells=false):iy Pi W (W.putObj l o'):=fun b i v h1 h2=>by
 have hb:b≠l:=fun e=>by subst e;rw [lC h hc] at h2;simp at h2
 exact (World.cell?_of_block (w:=W) (a:=⟨b,i,none⟩) (World.putObj_heap_other hb)).trans h2
def aC.plus (Pr:aC) (A B:World):aC:=fun b o=>Pr b o∨(A.heap.size≤b∧∃v,B.cell? ⟨b,o,none⟩=some v)
def aC.here (Pr:aC) (w:World):aC:=fun b o=>Pr b o∧∃v,w.cell? ⟨b,o,none⟩=some v
def C4 (P:Program) (n:Nat) (g:Nat) (lb:Array Value) (enc:Nat→Array Value) (N:Nat) (Pr:aC) (w:World):Prop:=
 ∀(l:Nat) (J:Nat→aC→World→Prop) (Jx:World→Prop) (W:World),Below w.heap.size w W→(∀k Pi A B,J k Pi A→A.grownBy B none→J k (Pi.plus A B) B)→(∀A B,Jx A→A.grownBy B none→Jx B)→
  (∀k Pi W1,J k Pi W1→k<N→YieldAt Fence.wide (n - 1) P l (enc k) W1 fun e W'=>(e= .returned (.bool true)∧J (k+1) Pi W'∧iy Pi W1 W'∧W1.heap.size≤W'.heap.size)∨(e= .returned (.bool false)∧Jx W'))→
  J 0 (Pr.here w) W→CallsIn Fence.wide n P g (#[.func (.yield l) #[] #[]]++lb) W fun e W'=>(∃v,e= .returned v)∧((∃Pi,J N Pi W')∨Jx W')
def Jd (B:Nat) (Pi:aC) (I:World→Prop) (Ix:Code→World→Prop) (W:World):Exit→Act→World→Prop
 | .normal,_,W'=>KeepsFrom B W W'∧iy Pi W W'∧I W'
 | .ret,_,W'=>KeepsFrom B W W'∧Ix .ret W'
 | .exit id,_,W'=>KeepsFrom B W W'∧Ix (.exit id) W'
 |_,_,_=>False
def wI (B:Nat) (I:World→Prop):Prop:=∀(W:World) (l:Nat) (o o':Obj),I W→B≤l→W.heap[l]? =some o→o.isCells=false→o'.isCells=false→I (W.putObj l o')
theorem r8 {P:Program} {n:Nat} {g:Operand} {ps:Array Tmp} {assign body:Code} {Q:Exit→Act→World→Prop} {a:Act} {w:World}
  (h1:1≤n) {gf:Nat} {lb:Array Value} (hg:a.eval g= .func (.func gf) #[] lb) (eg:∀args w,(callFunc gf args).run P w= .ok (.enter gf args) w)
  {enc:Nat→Array Value} {Pr:aC} {N:Nat} (hseq:C4 P (n - 1) gf lb enc N Pr w)
  (hps:∀k,k<N→(enc k).size=ps.size)
  (I:Nat→aC→World→Prop) (Ix:Code→World→Prop) (hI:∀k Pi,wI w.heap.size (I k Pi)) (hIx:∀c,wI w.heap.size (Ix c)) (VH:∀k Pi A B,I k Pi A→A.grownBy B none→I k (Pi.plus A B) B) (MB:∀A B,I 0 (Pr.here w) A→A.grownBy B none→I 0 (Pr.here w) B) (Rl:∀c A B,Ix c A→A.grownBy B none→Ix c B) (h0:I 0 (Pr.here w) w)
  (Ax:Nat→aC→Act→World→Prop) (hAx:∀k Pi a',wI w.heap.size (Ax k Pi a'))
  (hassign:∀(l k:Nat) (Pi:aC) (W:World) (K:Act→World→Prop),I k Pi W→k<N→(∀a' W',KeepsFrom w.heap.size W W'→iy Pi W W'→Ax k Pi a' W'→K a' W')→
   assign.wpIn (Fence.wide.inRound l) (n - 1 - 1) P (Exit.then K (fun _ _ _=>False)) { tmps:=(ps.zip (enc k)).foldl (fun t (p,v)=>t.setIfInBounds p v) a.tmps,defers:=[]} W)
  (hbody:∀(l k:Nat) (Pi:aC) (a':Act) (W:World),Ax k Pi a' W→k<N→body.wpIn (Fence.wide.inRound l) (n - 1 - 1) P (Jd w.heap.size Pi (I (k+1) Pi) Ix W) a' W)
  (hdone:∀(D:Nat) (Pi:aC) (W:World),w.heap.size≤D→I N Pi W→W.heap[D]? =some (.deferred (some []))→Q .normal { a with defers:={ target:= .collected D,args:= #[]}::a.defers} W)
  (hstop:∀(D:Nat) (c:Code) (W:World),w.heap.size≤D→Ix c W→W.heap[D]? =some (.deferred (some []))→c.wpIn Fence.wide n P Q { a with defers:={ target:= .collected D,args:= #[]}::a.defers} W):
  (Code.rangeFunc g ps assign body).wpIn Fence.wide n P Q a w:=by
 refine wpIn_rangeFunc ?_
 intro fn hfn
 obtain ⟨rec,ou⟩:∃rec:LoopState→Option Code→Loop,rec=fun st pe=>{ state:=st,pending:=pe,fn,tmps:=a.tmps,params:=ps,assign,body,defers:=w.heap.size}:=⟨_,rfl⟩
 obtain ⟨W1,Fa⟩:∃W1,(w.alloc (.deferred (some []))).alloc (.loop (rec .ready none))=W1:=⟨_,rfl⟩
 have VM:W1.heap[w.heap.size+1]? =some (.loop (rec .ready none)):=by
  rw [←Fa];have:=World.alloc_heap_new (w.alloc (.deferred (some []))) (.loop (rec .ready none));rwa [World.size_alloc] at this
 have VL:W1.heap[w.heap.size]? =some (.deferred (some [])):=by
  rw [←Fa];exact (Below.heap_alloc _ _ _ (by simp)).trans (World.alloc_heap_new w _)
 have VG:I 0 (Pr.here w) W1:=by rw [←Fa];exact MB _ _ (MB _ _ h0 (World.grownBy_alloc _ _ none)) (World.grownBy_alloc _ _ none)
 have fG:Below w.heap.size w W1:=by
  rw [←Fa];exact ((Below.refl _ w).alloc (Nat.le_refl _) _).alloc (by simp) _
 have still:∀{A B:World} {k:Nat} {o:Obj},A.grownBy B none→A.heap[k]? =some o→B.heap[k]? =some o:=fun hg hk=>(hg.block _ (Array.getElem?_eq_some_iff.1 hk).1 (by simp)).trans hk
 refine ⟨w.heap.size+1,[{ target:= .collected w.heap.size,args:= #[]}],W1,{ target:= .fn (.func gf) lb,args:= #[.func (.yield (w.heap.size+1)) #[] #[]]},W1,gf,
  #[.func (.yield (w.heap.size+1)) #[] #[]]++lb,W1, ?_, ?_,fun _ _=>trivial, ?_,fun _=>h1, ?_⟩
 · rw [←Fa,ou];exact run_enterLoop_outer _ _ _ _ _
 · simp only [resolve,hg]
   simp [go_sem]
 · simp [invoke,go_sem,eg]
 · refine (hseq (w.heap.size+1)
     (fun k Pi W=>I k Pi W∧W.heap[w.heap.size+1]? =some (.loop (rec .ready none))∧W.heap[w.heap.size]? =some (.deferred (some [])))
     (fun W=>∃c,Ix c W∧W.heap[w.heap.size+1]? =some (.loop (rec .done (some c)))∧W.heap[w.heap.size]? =some (.deferred (some [])))
     W1 fG (fun k Pi A B hs hg'=>⟨VH k Pi A B hs.1 hg',still hg' hs.2.1,still hg' hs.2.2⟩)
     (fun A B hs hg'=>by obtain ⟨c,hc,hl,hk⟩:=hs;exact ⟨c,Rl c A B hc hg',still hg' hl,still hg' hk⟩)
     ?_ ⟨VG,VM,VL⟩).mono ?_
   ·
    rintro k Pi W ⟨hi,hl,hk⟩ hlen
    have hy:=run_yield (P:=P) (args:=enc k) hl (by rw [ou];exact hps k hlen)
    rw [ou] at hy
    refine ⟨fn,_,assign,body,hy,roundIn_of_wpIn hfn (hassign _ k Pi W _ hi hlen ?_)⟩
    clear hy
    intro a' Wa Fo hkp VR
    have hla:=Fo.same _ _ (by omega) hl rfl
    have hka:=Fo.same _ _ (Nat.le_refl _) hk rfl
    have hlt:w.heap.size+1<Wa.heap.size:=(Array.getElem?_eq_some_iff.1 hla).1
    refine ⟨_,run_beginRound hla (by rw [ou]), ?_⟩
    have mT:(Wa.putObj (w.heap.size+1) (.loop { rec .ready none with state:= .busy})).heap[w.heap.size+1]? =some (.loop { rec .ready none with state:= .busy}):=World.putObj_heap_same hlt
    have hk2:(Wa.putObj (w.heap.size+1) (.loop { rec .ready none with state:= .busy})).heap[w.heap.size]? =some (.deferred (some [])):=(World.putObj_heap_other (by omega)).trans hka
    have Ae:iy Pi Wa (Wa.putObj (w.heap.size+1) (.loop { rec .ready none with state:= .busy})):=iy.de _ hla rfl
    refine wpIn_mono (hbody _ k Pi a' _ (hAx k Pi a' _ _ _ _ VR (by omega) hla rfl rfl) hlen) ?_
    have fin:∀(jump:Option Code) (W3:World),KeepsFrom w.heap.size (Wa.putObj (w.heap.size+1) (.loop { rec .ready none with state:= .busy})) W3→
      (Instr.endRound (w.heap.size+1) jump).run P W3= .ok (.bool jump.isNone) (W3.putObj (w.heap.size+1) (.loop (rec (if jump.isNone then .ready else .done) jump)))∧
      W3.heap[w.heap.size+1]? =some (.loop { rec .ready none with state:= .busy})∧
      (W3.putObj (w.heap.size+1) (.loop (rec (if jump.isNone then .ready else .done) jump))).heap[w.heap.size+1]? =some (.loop (rec (if jump.isNone then .ready else .done) jump))∧
      (W3.putObj (w.heap.size+1) (.loop (rec (if jump.isNone then .ready else .done) jump))).heap[w.heap.size]? =some (.deferred (some [])):=fun jump W3 vb=>by
     have mU:=vb.same _ _ (by omega) mT rfl
     have:=run_endRound (P:=P) jump mU
     rw [ou] at this ⊢
     exact ⟨this,by rw [ou] at mU;exact mU,World.putObj_heap_same (Array.getElem?_eq_some_iff.1 mU).1,(World.putObj_heap_other (by omega)).trans (vb.same _ _ (Nat.le_refl _) hk2 rfl)⟩
    rintro e a3 W3 hp
    cases e with
    |normal=>
     obtain ⟨vb,RF,va⟩:=hp
     obtain ⟨hr,mU,Fp,Fm⟩:=fin none W3 vb
     exact ⟨_,_,hr, .inl ⟨rfl,⟨hI _ _ _ _ _ _ va (by omega) mU rfl rfl,Fp,Fm⟩,hkp.trans ((Ae.trans RF).trans (iy.de _ mU rfl)),by
      have h1:=Fo.size
      have h2:=vb.size
      simp at h2 ⊢
      omega⟩⟩
    |ret=>
     obtain ⟨vb,va⟩:=hp
     obtain ⟨hr,mU,Fp,Fm⟩:=fin (some .ret) W3 vb
     exact ⟨_,_,hr, .inr ⟨rfl, .ret,hIx _ _ _ _ _ va (by omega) mU rfl rfl,Fp,Fm⟩⟩
    |exit id=>
     obtain ⟨vb,va⟩:=hp
     obtain ⟨hr,mU,Fp,Fm⟩:=fin (some (.exit id)) W3 vb
     exact ⟨_,_,hr, .inr ⟨rfl, .exit id,hIx _ _ _ _ _ va (by omega) mU rfl rfl,Fp,Fm⟩⟩
    |goto t=>exact hp.elim
    |panic ch=>exact hp.elim
    |outgrown=>exact hp.elim
   ·
    rintro e W2 ⟨⟨v,rfl⟩,(⟨Pi,hi,hl,hk⟩|⟨c,hi,hl,hk⟩)⟩
    · exact ⟨none,_,by have:=run_endLoop (P:=P) hl (by rw [ou];simp);rw [ou] at this;exact this,hdone _ Pi _ (Nat.le_refl _) (hI _ _ _ _ _ _ hi (by omega) hl rfl rfl) ((World.putObj_heap_other (by omega)).trans hk)⟩
    · exact ⟨some c,_,by have:=run_endLoop (P:=P) hl (by rw [ou];simp);rw [ou] at this;exact this,hstop _ c _ (Nat.le_refl _) (hIx _ _ _ _ _ hi (by omega) hl rfl rfl) ((World.putObj_heap_other (by omega)).trans hk)⟩
end Go.Proofs.YtibbgjafjhcemaaDoor.Cul
namespace Go.Proofs.YtibbgjafjhcemaaDoor.Cul
open Go Go.RowKit
section
variable {aS:ew} {P:Program} {base:Nat} {w w' w0:World} {Pr aD aN:aC} {bk aQ:Key→Nat} {st cR s2:St} {a a':Act} {N:Nat}
def Carry (w:World) (Pr:aC) (w':World) (aD:aC):Prop:=∀b o v,Pr b o→w.cell? ⟨b,o,none⟩=some v→aD b o∧w'.cell? ⟨b,o,none⟩=some v
mutual
theorem Rp.carry (c:Carry w Pr w' aD):∀{p:PV} {v:Value},Rp w Pr p v→Rp w' aD p v
 |_,_, .lit h=> .lit h
 |_,_, .sl hr h1 hl hn hc hp=> .sl (aO.carry c hr) h1 hl hn (fun j v hj=>(c _ _ v (hp j (List.getElem?_eq_some_iff.1 hj).1) (hc j v hj)).2) (fun i hi=>(c _ _ _ (hp i hi) (hc i _ (List.getElem?_eq_getElem hi))).1)
 |_,_, .n8=> .n8
 |_,_, .el hr h1 hc hp=> .el (aO.carry c hr) h1 (fun j v hj=>(c _ _ v (hp j (List.getElem?_eq_some_iff.1 hj).1) (hc j v hj)).2) (fun i hi=>(c _ _ _ (hp i hi) (hc i _ (List.getElem?_eq_getElem hi))).1)
 |_,_, .fn hr=> .fn (aO.carry c hr)
 |_,_, .ag hr h1=> .ag (aO.carry c hr) h1
 |_,_, .aG hr=> .aG (aO.carry c hr)
theorem aO.carry (c:Carry w Pr w' aD):∀{cs:List PV} {vs:List Value},aO w Pr cs vs→aO w' aD cs vs
 |_,_, .nil=> .nil
 |_,_, .cons h hs=> .cons (Rp.carry c h) (aO.carry c hs)
end
theorem Good.own {r0:Option Nat} {ds:List Deferred} (hds:aS.ds=some ds) (hm:∀d∈ds,Mark base w0 d) (qG:base≤w0.heap.size) (G:Good base w0 aN N aS st a w) (hg:w.grownBy w' r0) (hr:∀r,r0=some r→w0.heap.size≤r∧∃o:Obj,w.heap[r]? =some o∧o.isCells=false):Good base w0 aN N aS st a w':=by
 obtain ⟨Pr,bk,I,hb,hp,gq,fo,hkc,hdf⟩:=G
 have hkeep:KO w0 w':=gq.grown hg (fun r e=>(hr r e).1)
 have iL:Below base w0 w':=hb.grown hg (Nat.le_trans qG hb.size) (fun k e=>Nat.le_trans qG (hr k e).1)
 cases r0 with
 |none=>
  have hf:Fw w Pr w' Pr:=⟨(Below.refl _ w).grown hg (Nat.le_refl _) (by simp),fun _ _ h=>h,fun _ _ _ h=>h,fun b o h=>Nat.lt_of_lt_of_le (I.bL b o h) hg.size⟩
  refine ⟨Pr,bk,I.fw hf,iL,hp,hkeep,fo,fun b o v h1 h2=> ?_,hdf⟩
  obtain ⟨h3,h4⟩:=hkc b o v h1 h2
  exact ⟨h3,((hf.kp I.bL).cell b o h3).trans h4⟩
 |some r=>
  obtain ⟨hlo,o,ho,hc⟩:=hr r rfl
  have I2:=I.de hg (r:=r) (fun r' e=>by cases e;rfl) ho hc (fun d hd e=>by
   rw [hdf ds hds] at hd
   obtain ⟨D,e1,e2,_⟩:=hm d hd
   rw [e1] at e
   have:D=r:=by simpa using e
   have:=(Array.getElem?_eq_some_iff.1 e2).1
   omega)
  refine ⟨_,bk,I2,iL,fun b o hlt h=>hp b o hlt h.1,hkeep,fo,fun b i v h1 h2=> ?_,hdf⟩
  obtain ⟨h3,h4⟩:=hkc b i v h1 h2
  have Fe:b≠r:=fun e=>by subst e;rw [lC ho hc] at h4;simp at h4
  refine ⟨⟨h3,Fe⟩,(World.cell?_of_block (w:=w) (a:=⟨b,i,none⟩) ?_).trans h4⟩
  exact hg.block b (I.bL b i h3) (fun e=>Fe (by cases e;rfl))
structure LW (ks:List Nat) (cR:St):Prop where
 sl:∀t av,look cR.sl t=some av→(∃p,av= .pv p)∨(∃k off,av= .bp k off∧ks.contains k=false)∨(∃f caps,av= .cl f caps∧caps.any (yM ks)=false)∨av= .dead
 bx:∀k cs,look cR.bx k=some cs→ks.contains k=false
theorem yc (st:St) (ks:List Nat) (t:Nat):look (st.iu ks).sl t=(look st.sl t).map (qA ks):=bT (Kt ks) (fun _ v=>qA ks v) (fun _=>rfl) st.sl t
theorem rX (st:St) (ks:List Nat):LW ks (st.iu ks):=by
 constructor
 · intro t av h
   rw [yc] at h
   cases e:look st.sl t with
   |none=>simp [e] at h
   |some v=>
    simp only [e,Option.map_some,Option.some.injEq] at h
    subst h
    cases v with
    |pv p=>exact .inl ⟨p,rfl⟩
    |bp k off=>
     simp only [qA]
     cases hk:ks.contains k with
     |true=>simp
     |false=>exact .inr (.inl ⟨k,off,by simp,hk⟩)
    |cl f caps=>
     simp only [qA]
     cases hk:caps.any (yM ks) with
     |true=>simp
     |false=>exact .inr (.inr (.inl ⟨f,caps,by simp,hk⟩))
    |_=>exact .inr (.inr (.inr rfl))
 · intro k cs h
   simp only [St.iu] at h
   rw [jt (fun x=> !ks.contains x)] at h
   split at h
   · rename_i hk;simpa using hk
   · simp at h
theorem Inv.iu (I:Inv base w Pr bk st a N) (ks:List Nat):Inv base w Pr bk (st.iu ks) a N:=by
 refine I.less (fun t av h=> ?_) (fun k cs h=> ?_) (fun p z h=> ?_) (fun t q h=>by simp [St.iu,look] at h) (fun t u h _=> ?_) (fun t av j h hj _ _=> ?_)
 · rw [yc] at h
   cases e:look st.sl t with
   |none=>simp [e] at h
   |some v=>
    simp only [e,Option.map_some,Option.some.injEq] at h
    obtain ⟨u,hu,_⟩:=I.slots t v e
    subst h
    cases v with
    |pv p=>exact .inl rfl
    |bp k off=>
     simp only [qA]
     split
     · exact .inr ⟨rfl,u,hu⟩
     · exact .inl rfl
    |cl f caps=>
     simp only [qA]
     split
     · exact .inr ⟨rfl,u,hu⟩
     · exact .inl rfl
    |_=>exact .inr ⟨rfl,u,hu⟩
 · simp only [St.iu] at h
   rw [jt (fun x=> !ks.contains x)] at h
   split at h
   · exact h
   · simp at h
 · simp only [St.iu] at h
   rw [ek (Pl.tu fun k=> !ks.contains k)] at h
   split at h
   · rename_i hk
     refine ⟨h, ?_⟩
     cases p with
     |s t=>simp [Pl.tu] at hk
     |c k o=>
      simp only [Pl.tu] at hk
      show look (st.iu ks).bx k=look st.bx k
      simp only [St.iu]
      rw [jt (fun x=> !ks.contains x),if_pos hk]
   · simp at h
 · exfalso
   have:=(rX st ks).sl t
   rcases h with h|⟨off,h⟩
   · rcases this _ h with ⟨p,e⟩|⟨k,o,e,_⟩|⟨f,c,e,_⟩|e<;>simp at e
   · rcases this _ h with ⟨p,e⟩|⟨k,o,e,_⟩|⟨f,c,e,_⟩|e<;>simp at e
 · exfalso
   rcases (rX st ks).sl t av h with ⟨p,e⟩|⟨k,o,e,_⟩|⟨f,c,e,_⟩|e<;>subst e<;>simp [oA] at hj
end
end Go.Proofs.YtibbgjafjhcemaaDoor.Cul
namespace Go.Proofs.YtibbgjafjhcemaaDoor.Cul
open Go Go.RowKit
section
variable {aS:ew} {P:Program} {base:Nat} {w w' w0:World} {Pr aD aN:aC} {bk aQ:Key→Nat} {st cR s2:St} {a a':Act} {N:Nat} {ks:List Nat}
theorem Al {α:Type} (f:Nat→Bool) (l:List (Nat×α)) (t:Nat):look (l.filter (fun x=>f x.1)) t=if f t then look l t else none:=jt f l t
theorem zj (I:Inv base w Pr bk cR a N) (S:LW ks cR) (I2:Inv base w' aD aQ s2 a' N) (c:Carry w Pr w' aD) (hk:∀k,ks.contains k=false→aQ (.bx k)=bk (.bx k)) (ko:KO w w'):
  Inv base w' aD aQ (cR.after s2) a N:=by
 have dj:∀k,look (cR.after s2).bx k=if (look cR.bx k).isSome then look s2.bx k else none:=fun k=>Al (fun k=>(look cR.bx k).isSome) s2.bx k
 have dO:∀p,aJ (cR.after s2).gr p=if p.tu (fun k=>(look cR.bx k).isSome) then aJ s2.gr p else none:=fun p=>ek (Pl.tu fun k=>(look cR.bx k).isSome) s2.gr p
 have bU:∀x,live (cR.after s2) x→live s2 x:=by
  intro x hx
  cases x with
  |bx k=>
   obtain ⟨cs,h⟩:=hx
   rw [dj] at h
   split at h
   · exact ⟨cs,h⟩
   · simp at h
  |sx t=>
   exfalso
   rcases hx with ⟨sz,n,cs,h⟩|⟨z,h⟩
   · rcases S.sl t _ h with ⟨p,e⟩|⟨k,o,e,_⟩|⟨f,c,e,_⟩|e<;>simp at e
   · rw [dO] at h;simp [Pl.tu] at h
  |cx k o=>
   obtain ⟨z,h⟩:=hx
   rw [dO] at h
   split at h
   · exact ⟨z,h⟩
   · simp at h
 constructor
 · exact I.size
 · exact ⟨fun d hd=>(I.defers.1 d hd).ko ko,I.defers.2⟩
 · exact I2.hb
 · exact I2.bL
 · intro t av ht
   obtain ⟨v,hv,hr⟩:=I.slots t av ht
   refine ⟨v,hv, ?_⟩
   rcases S.sl t av ht with ⟨p,rfl⟩|⟨k,off,rfl,hkk⟩|⟨f,caps,rfl,hkk⟩|rfl
   · exact Rp.carry c hr
   · simp only [dJ] at hr ⊢;rw [hk k hkk];exact hr
   · obtain ⟨vs,h1,h2,h3⟩:=hr
     refine ⟨vs,h1,h2,fun i cp u hc hu=> ?_⟩
     have:=h3 i cp u hc hu
     cases cp with
     |pv p=>exact Rp.carry c this
     |bp k off=>
      have Fo:ks.contains k=false:=by
       rw [List.any_eq_false] at hkk
       have:=hkk _ (List.mem_of_getElem? hc)
       simpa [yM] using this
      simp only [gT] at this ⊢;rw [hk k Fo];exact this
   · trivial
 · exact fun x hx=>I2.own x (bU x hx)
 · exact fun x y hx hy=>I2.inj x y (bU x hx) (bU y hy)
 · intro k cs h
   rw [dj] at h
   split at h
   · exact I2.boxes k cs h
   · simp at h
 · intro t z h
   rw [dO] at h;simp [Pl.tu] at h
 · intro k i z h
   rw [dO] at h
   split at h
   · rename_i hc
     obtain ⟨o,n,cap,cs,di,h1,h2,h3,h4⟩:=I2.iA k i z h
     refine ⟨o,n,cap,cs,di, ?_,h2,h3,h4⟩
     rw [dj,if_pos (by simpa [Pl.tu] using hc)];exact h1
   · simp at h
 · intro t q h
   simp [St.after,look] at h
def kO (ps:List Nat) (vs:List Value) (tmps:Array Value):Array Value:=(ps.zip vs).foldl (fun t x=>t.setIfInBounds x.1 x.2) tmps
theorem vJ:∀(ps:List Nat) (xs:List PV) (vs:List Value) (st:St) (a:Act) (bk:Key→Nat),Inv base w Pr bk st a N→aO w Pr xs vs→(∀p∈ps,p<N)→
  ∃aQ,Inv base w Pr aQ (mF ps xs st) { a with tmps:=kO ps vs a.tmps} N∧∀k,aQ (.bx k)=bk (.bx k)
 |[],xs,vs,st,a,bk,I,hr,hp=>⟨bk,by simpa [mF,kO] using I,fun _=>rfl⟩
 |p::ps,_,_,st,a,bk,I, .nil,hp=>⟨bk,by simpa [mF,kO] using I,fun _=>rfl⟩
 |p::ps,x::xs,v::vs,st,a,bk,I, .cons h hs,hp=>by
  have hm:dy base w Pr bk st a { v:= .pv x} v:=bA h
  obtain ⟨zo,I1,fG⟩:=I.iC (hp p (by simp)) hm
  obtain ⟨gA,I2,ck⟩:=vJ ps xs vs _ _ zo I1 hs (fun q hq=>hp q (List.mem_cons_of_mem _ hq))
  refine ⟨gA, ?_,fun k=>(ck k).trans (fG k)⟩
  have e:kO (p::ps) (v::vs) a.tmps=kO ps vs (a.put (some p) v).tmps:=rfl
  rw [e]
  exact I2
end
end Go.Proofs.YtibbgjafjhcemaaDoor.Cul
namespace Go.Proofs.YtibbgjafjhcemaaDoor.Cul
open Go Go.RowKit
def toExit:Xt→Exit
 | .normal=> .normal
 | .exit id=> .exit id
 | .ret=> .ret
def mJ (P:Program) (it:Nat→List PV→Option (Nat×List (List PV))):Prop:=
 ∀f caps k xs,it f caps=some (k,xs)→oD P f∧∀(vs:List Value) (w:World) (Pr:aC),(∀b o,Pr b o→b<w.heap.size)→aO w Pr caps vs→
  ∃enc:Nat→List Value,(∀i x,xs[i]? =some x→(enc i).length=k∧∀W aD,aO W aD x (enc i))∧∀n,1≤n→C4 P n f vs.toArray (fun i=>(enc i).toArray) xs.length Pr w
def NG:Xt→Code
 | .normal=> .skip
 | .exit id=> .exit id
 | .ret=> .ret
section
variable {aS:ew} {P:Program} {base:Nat} {w w' w0:World} {Pr aD aN:aC} {bk aQ:Key→Nat} {st cR s2:St} {a a':Act} {N m:Nat} {ks:List Nat}
theorem JA (ps:Array Nat) (vs:List Value) (tmps:Array Value):(ps.zip vs.toArray).foldl (fun t (p,v)=>t.setIfInBounds p v) tmps=kO ps.toList vs tmps:=by
 unfold kO
 rw [←Array.foldl_toList,Array.toList_zip]
def Part (P:Program) (base N:Nat) (m:Nat) (ks:List Nat) (c:Code) (f:St→Option (Xt×St)):Prop:=
 ∀(l:Nat) (w0:World) (aN:aC) (aS:ew) (st:St) (a:Act) (w:World) (x:Xt) (s:St),(∀d,ks.contains d=true→aS.k d=none)→Good base w0 aN N aS st a w→f st=some (x,s)→
  ∀Q:Exit→Act→World→Prop,(∀a' w',Good base w0 aN N aS s a' w'→Q (toExit x) a' w')→c.wpIn (Fence.wide.inRound l) m P Q a w
def fj (base:Nat) (w0:World) (aN:aC) (N:Nat) (aS:ew) (Pi:aC) (st:St) (a:Act) (w:World):Prop:=
 ∃Pr bk,Inv base w Pr bk st a N∧Below base w0 w∧(∀b o,b<base→Pr b o→aN b o)∧KO w0 w∧(∀k b,aS.k k=some b→bk (.bx k)=b)∧(∀b o v,aN b o→w0.cell? ⟨b,o,none⟩=some v→Pr b o∧w.cell? ⟨b,o,none⟩=some v)∧(∀ds,aS.ds=some ds→a.defers=ds)∧
  ∀b o,Pi b o→Pr b o∧∃v,w.cell? ⟨b,o,none⟩=some v
theorem fj.good {Pi:aC} (h:fj base w0 aN N aS Pi st a w):Good base w0 aN N aS st a w:=by
 obtain ⟨Pr,bk,I,h1,h2,h3,h4,h5,h6,_⟩:=h
 exact ⟨Pr,bk,I,h1,h2,h3,h4,h5,h6⟩
theorem fj.de {Pi:aC} {ds:List Deferred} (hds:aS.ds=some ds) (hm:∀d∈ds,Mark base w0 d) (qG:base≤w0.heap.size) (G:fj base w0 aN N aS Pi st a w) {l:Nat} {o o':Obj} (hl:w0.heap.size≤l) (ho:w.heap[l]? =some o) (hc:o.isCells=false):fj base w0 aN N aS Pi st a (w.putObj l o'):=by
 obtain ⟨Pr,bk,I,hb,hp,gq,fo,hkc,hdf,ME⟩:=G
 have hg:w.grownBy (w.putObj l o') (some l):=grownBy_putObj' w l _
 have I2:=I.de hg (r:=l) (fun r' e=>by cases e;rfl) ho hc (fun d hd e=>by
  rw [hdf ds hds] at hd
  obtain ⟨D,e1,e2,_⟩:=hm d hd
  rw [e1] at e
  have:D=l:=by simpa using e
  have:=(Array.getElem?_eq_some_iff.1 e2).1
  omega)
 have hne:∀b i v,w.cell? ⟨b,i,none⟩=some v→b≠l∧(w.putObj l o').cell? ⟨b,i,none⟩=some v:=fun b i v h4=>by
  have Fe:b≠l:=fun e=>by subst e;rw [lC ho hc] at h4;simp at h4
  exact ⟨Fe,(World.cell?_of_block (w:=w) (a:=⟨b,i,none⟩) (World.putObj_heap_other Fe)).trans h4⟩
 refine ⟨_,bk,I2,hb.grown hg (Nat.le_trans qG hb.size) (fun k e=>by cases e;exact Nat.le_trans qG hl),fun b o hlt h=>hp b o hlt h.1,gq.grown hg (fun r e=>by cases e;exact hl),fo,fun b i v h1 h2=> ?_,hdf,fun b i h=> ?_⟩
 · obtain ⟨h3,h4⟩:=hkc b i v h1 h2
   obtain ⟨h5,h6⟩:=hne b i v h4
   exact ⟨⟨h3,h5⟩,h6⟩
 · obtain ⟨h3,v,h4⟩:=ME b i h
   obtain ⟨h5,h6⟩:=hne b i v h4
   exact ⟨⟨h3,h5⟩,v,h6⟩
theorem sA {w:World} {b o:Nat} {v:Value} (h:w.cell? ⟨b,o,none⟩=some v):b<w.heap.size:=by
 unfold World.cell? at h
 cases e:w.heap[b]? with
 |none=>simp [e] at h
 |some ob=>exact (Array.getElem?_eq_some_iff.1 e).1
theorem fj.grow {Pi:aC} (qG:base≤w0.heap.size) (G:fj base w0 aN N aS Pi st a w) (hg:w.grownBy w' none):fj base w0 aN N aS (Pi.plus w w') st a w':=by
 obtain ⟨Pr,bk,I,hb,hp,gq,fo,hkc,hdf,ME⟩:=G
 have iL:Below w.heap.size w w':=(Below.refl _ w).grown hg (Nat.le_refl _) (by simp)
 obtain ⟨aD,fF⟩:∃aD:aC,∀b o,aD b o↔(Pr b o∨(w.heap.size≤b∧b<w'.heap.size)):=⟨fun b o=>_,fun _ _=>Iff.rfl⟩
 have hf:Fw w Pr w' aD:=⟨iL,fun b o h=>(fF b o).2 (.inl h),fun b o hb h=>((fF b o).1 h).resolve_right (fun h=>by omega),fun b o h=>((fF b o).1 h).elim (fun h=>Nat.lt_of_lt_of_le (I.bL b o h) hg.size) (fun h=>h.2)⟩
 have hcell:∀b o v,w.cell? ⟨b,o,none⟩=some v→w'.cell? ⟨b,o,none⟩=some v:=fun b o v h=>(iL.cell (p:=⟨b,o,none⟩) (sA h)).trans h
 refine ⟨aD,bk,I.fw hf,hb.grown hg (Nat.le_trans qG hb.size) (by simp),fun b o hlt h=> ?_,gq.grown hg (by simp),fo,fun b o v h1 h2=> ?_,hdf,fun b o h=> ?_⟩
 · rcases (fF b o).1 h with h|h
   · exact hp b o hlt h
   · have:=hb.size;omega
 · obtain ⟨h3,h4⟩:=hkc b o v h1 h2
   exact ⟨(fF b o).2 (.inl h3),hcell b o v h4⟩
 · rcases h with h|⟨h1,v,h2⟩
   · obtain ⟨h3,v,h4⟩:=ME b o h
     exact ⟨(fF b o).2 (.inl h3),v,hcell b o v h4⟩
   · exact ⟨(fF b o).2 (.inr ⟨h1,sA h2⟩),v,h2⟩
theorem fj.less {Pi P2:aC} (h:fj base w0 aN N aS Pi st a w) (k:∀b o,P2 b o→Pi b o):fj base w0 aN N aS P2 st a w:=by
 obtain ⟨Pr,bk,I,h1,h2,h3,h4,h5,h6,h7⟩:=h
 exact ⟨Pr,bk,I,h1,h2,h3,h4,h5,h6,fun b o h=>h7 b o (k b o h)⟩
theorem AW {it:Nat→List PV→Option (Nat×List (List PV))} (hI:mJ P it) (h1:2≤m) {gp body:Code} {fa fb:St→Option (Xt×St)} (hA:Part P base N (m - 1 - 1) ks gp fa) (hB:Part P base N (m - 1 - 1) ks body fb)
  (G:Good base w0 aN N aS st a w) (hz:aS.ds=none) (fo:∀d,ks.contains d=true→aS.k d=none) {g:Operand} {f:Nat} {caps:List PV} {ps:Array Nat} {xs:List (List PV)} (hps:∀p∈ps.toList,p<N) (hg:st.pv g=some (.fn f caps)) (hit:it f caps=some (ps.size,xs))
  {x:Xt} {st':St} (h:fS fa fb (st.iu ks) ps.toList xs (st.iu ks)=some (x,st')) {Q:Exit→Act→World→Prop} (hQ:∀a' w',Good base w0 aN N aS st' a' w'→Q (toExit x) a' w'):
  (Code.rangeFunc g ps gp body).wpIn Fence.wide m P Q a w:=by
 obtain ⟨Pr,bk,I,hb,hp,gq,DC,hkc,_⟩:=G
 have Is:=I.iu ks
 have S:=rX st ks
 generalize st.iu ks=cR at h Is S
 obtain ⟨hbody,RE⟩:=hI f caps ps.size xs hit
 have hfn:=iF I hg
 obtain ⟨vs,tj,hrc⟩:∃vs:List Value,a.eval g= .func (.func f) #[] vs.toArray∧aO w Pr caps vs:=by
  cases hv:a.eval g<;>rw [hv] at hfn<;>cases hfn
  exact ⟨_,rfl,by assumption⟩
 obtain ⟨enc,MX,M0⟩:=RE vs w Pr I.bL hrc
 have VY:∀args w,(callFunc f args).run P w= .ok (.enter f args) w:=by
  obtain ⟨fn,c,e1,e2,e3⟩:=hbody
  intro args w
  simp [callFunc,program,Sem.run,e1,e2,show ¬fn.name= "runtime.NumGoroutine" from by simpa using e3]
 obtain ⟨uq,hL⟩:∃uq:ew,uq=⟨fun j=>if ks.contains j then none else some (bk (.bx j)),some a.defers⟩:=⟨_,rfl⟩
 obtain ⟨gH,hR⟩:∃gH:ew,gH=⟨fun j=>if ks.contains j then none else some (bk (.bx j)),some []⟩:=⟨_,rfl⟩
 have Qg:∀d,ks.contains d=true→gH.k d=none:=fun d hd=>by rw [hR];show (if ks.contains d=true then none else some _)=none;rw [if_pos hd]
 have DL:∀(gA:Key→Nat) (dd:Option (List Deferred)),(∀k,ks.contains k=false→gA (.bx k)=bk (.bx k))→∀k b,(⟨fun j=>if ks.contains j then none else some (bk (.bx j)),dd⟩:ew).k k=some b→gA (.bx k)=b:=by
  intro gA dd h2 k b e
  simp only at e
  split at e
  · simp at e
  · rename_i hc
    rw [h2 k (by simpa using hc)];exact Option.some.inj e
 have yZ:∀(gA:Key→Nat) (dd:Option (List Deferred)),(∀k b,(⟨fun j=>if ks.contains j then none else some (bk (.bx j)),dd⟩:ew).k k=some b→gA (.bx k)=b)→∀k,ks.contains k=false→gA (.bx k)=bk (.bx k):=by
  intro gA dd h2 k hc
  exact h2 k _ (by show (if ks.contains k=true then none else some _)=some _;rw [if_neg (by rw [hc];simp)])
 have hM:∀d∈a.defers,Mark base w d:=I.defers.1
 have Rk:∀A B:World,(∃cur,fS fa fb cR ps.toList (xs.drop 0) cur=some (x,st')∧fj base w Pr N uq (Pr.here w) (cR.after cur) a A)→A.grownBy B none→∃cur,fS fa fb cR ps.toList (xs.drop 0) cur=some (x,st')∧fj base w Pr N uq (Pr.here w) (cR.after cur) a B:=
  fun A B ⟨cur,e,G2⟩ oP=>⟨cur,e,(G2.grow I.hb oP).less fun b o h=> .inl h⟩
 refine r8 (N:=xs.length) (enc:=fun i=>(enc i).toArray) (by omega) tj VY (M0 (m - 1) (by omega))
  (fun k hk=>by
   obtain ⟨y,hy⟩:∃y,xs[k]? =some y:=⟨_,List.getElem?_eq_getElem hk⟩
   simpa using (MX k y hy).1)
  (fun k Pi W=>∃cur,fS fa fb cR ps.toList (xs.drop k) cur=some (x,st')∧fj base w Pr N uq Pi (cR.after cur) a W)
  (fun c W=>c=NG x∧x≠ .normal∧Good base w Pr N uq st' a W)
  (fun k Pi W l o o' ⟨cur,e,G2⟩ hl ho hc _=>⟨cur,e,G2.de (by rw [hL]) hM I.hb hl ho hc⟩)
  (fun c W l o o' ⟨e1,e2,G2⟩ hl ho hc _=>⟨e1,e2,G2.own (by rw [hL]) hM I.hb (grownBy_putObj' W l o') (fun r e=>by cases e;exact ⟨hl,o,ho,hc⟩)⟩)
  (fun k Pi A B ⟨cur,e,G2⟩ oP=>⟨cur,e,G2.grow I.hb oP⟩)
  Rk
  (fun c A B ⟨e1,e2,G2⟩ oP=>⟨e1,e2,G2.own (by rw [hL]) hM I.hb oP (by simp)⟩)
  ⟨cR,by simpa using h, ?_⟩
  (fun k Pi a2 W=>∃s e s2,fb s=some (e,s2)∧((e= .normal∧fS fa fb cR ps.toList (xs.drop (k+1)) s2=some (x,st'))∨(e≠ .normal∧x=e∧st'=cR.after s2))∧fj base w Pr N gH Pi s a2 W)
  (fun k Pi a2 W l o o' ⟨s,e,s2,h3,h4,G2⟩ hl ho hc _=>⟨s,e,s2,h3,h4,G2.de (by rw [hR]) (by simp) I.hb hl ho hc⟩)
  ?_ ?_ ?_ ?_
 · exact ⟨Pr,bk,zj Is S Is (fun b o v h1 h2=>⟨h1,h2⟩) (fun _ _=>rfl) (KO.refl _),Below.refl _ _,fun _ _ _ h=>h,KO.refl _,by rw [hL];exact DL bk _ (fun _ _=>rfl),fun _ _ _ h1 h2=>⟨h1,h2⟩,fun ds e=>by rw [hL] at e;simpa using e,fun b o h=>h⟩
 ·
  rintro l k Pi W K ⟨cur,fH,sW,sZ,IW,zP,vh,rC,kV,uf,JN,zN⟩ hk hK
  obtain ⟨y,hy⟩:∃y,xs[k]? =some y:=⟨_,List.getElem?_eq_getElem hk⟩
  have Pm:xs.drop k=y::xs.drop (k+1):=by
   rw [List.drop_eq_getElem_cons hk]
   congr 1
   rw [List.getElem?_eq_getElem hk] at hy
   exact Option.some.inj hy
  rw [Pm] at fH
  simp only [fS,Option.bind_eq_some_iff] at fH
  obtain ⟨⟨xa,s⟩,ha,fH⟩:=fH
  cases xa with
  |exit id=>simp at fH
  |ret=>simp at fH
  |normal=>
   simp only [Option.bind_eq_some_iff] at fH
   obtain ⟨⟨e,s2⟩,zW,fH⟩:=fH
   have I0:=IW.marks (ds:=[]) (by simp) List.nodup_nil
   obtain ⟨gA,I2,ck⟩:=vJ ps.toList y (enc k) _ _ sZ I0 ((MX k y hy).2 W sW) hps
   rw [JA]
   have hun:=yZ sZ _ (by rw [hL] at kV;exact kV)
   refine hA l W sW gH _ _ W .normal s Qg ⟨sW,gA,I2,Below.refl _ _,fun _ _ _ h=>h,KO.refl _,by rw [hR];exact DL gA _ (fun j hj=>(ck j).trans (hun j hj)),fun _ _ _ h1 h2=>⟨h1,h2⟩,fun ds e=>by rw [hR] at e;simpa using e⟩ ha _ fun a2 W2 G2=> ?_
   obtain ⟨k9,EA,I3,nR,Ni,rB,yQ,ue,Qj⟩:=G2
   refine hK a2 W2 (rB.from _) (fun b o v h1 h2=>(ue b o v (zN b o h1).1 h2).2) ⟨s,e,s2,zW, ?_,k9,EA,I3,zP.trans nR,fun b o hlt h=>vh b o hlt (Ni b o hlt h),rC.trans rB,yQ,fun b o v h1 h2=> ?_,Qj,fun b o h1=> ?_⟩
   · cases e with
     |normal=>exact .inl ⟨rfl,fH⟩
     |exit id=>simp only [Option.some.injEq,Prod.mk.injEq] at fH;exact .inr ⟨by simp,fH.1.symm,fH.2.symm⟩
     |ret=>simp only [Option.some.injEq,Prod.mk.injEq] at fH;exact .inr ⟨by simp,fH.1.symm,fH.2.symm⟩
   · obtain ⟨h3,h4⟩:=uf b o v h1 h2
     exact ue b o v h3 h4
   · obtain ⟨h3,v,h4⟩:=zN b o h1
     obtain ⟨h5,h6⟩:=ue b o v h3 h4
     exact ⟨h5,v,h6⟩
 ·
  rintro l k Pi a2 W ⟨s,e,s2,zW,Dx,sW,sZ,IW,zP,vh,rC,kV,uf,JN,zN⟩ hk
  refine hB l W sW gH s a2 W e s2 Qg ⟨sW,sZ,IW,Below.refl _ _,fun _ _ _ h=>h,KO.refl _,kV,fun _ _ _ h1 h2=>⟨h1,h2⟩,JN⟩ zW _ fun a3 W2 G2=> ?_
  obtain ⟨k9,EA,I3,nR,Ni,rB,yQ,ue,Qj⟩:=G2
  have wZ:Carry w Pr W2 k9:=fun b o v h1 h2=>by
   obtain ⟨h3,h4⟩:=uf b o v h1 h2
   exact ue b o v h3 h4
  have hun:=yZ EA _ (by rw [hR] at yQ;exact yQ)
  have Ia:=zj Is S I3 wZ hun (rC.trans rB)
  have Ga:fj base w Pr N uq Pi (cR.after s2) a W2:=⟨k9,EA,Ia,zP.trans nR,fun b o hlt h=>vh b o hlt (Ni b o hlt h),rC.trans rB,by rw [hL];exact DL EA _ hun,wZ,fun ds e=>by rw [hL] at e;simpa using e,fun b o h1=>by
   obtain ⟨h3,v,h4⟩:=zN b o h1
   obtain ⟨h5,h6⟩:=ue b o v h3 h4
   exact ⟨h5,v,h6⟩⟩
  have hkp:iy Pi W W2:=fun b o v h1 h2=>(ue b o v (zN b o h1).1 h2).2
  cases e with
  |normal=>
   rcases Dx with ⟨_,hc⟩|⟨hne,_⟩
   · exact ⟨rB.from _,hkp,s2,hc,Ga⟩
   · exact absurd rfl hne
  |exit id=>
   rcases Dx with ⟨hne,_⟩|⟨_,hx,hs⟩
   · simp at hne
   · exact ⟨rB.from _,by rw [hx];rfl,by rw [hx];simp,by rw [hs];exact Ga.good⟩
  |ret=>
   rcases Dx with ⟨hne,_⟩|⟨_,hx,hs⟩
   · simp at hne
   · exact ⟨rB.from _,by rw [hx];rfl,by rw [hx];simp,by rw [hs];exact Ga.good⟩
 ·
  rintro D Pi W hD ⟨cur,fH,sW,sZ,IW,zP,vh,rC,kV,uf,JN,_⟩ Mx
  have he:xs.drop xs.length=[]:=by simp
  rw [he] at fH
  simp only [fS,Option.some.injEq,Prod.mk.injEq] at fH
  obtain ⟨rfl,rfl⟩:=fH
  have hun:=yZ sZ _ (by rw [hL] at kV;exact kV)
  refine hQ _ _ ⟨sW,sZ,IW.marks (fun d hd=> ?_) ?_,hb.trans zP,fun b o hlt h=>hp b o hlt (vh b o hlt h),gq.trans rC,fun k b e=> ?_,fun b o v h1 h2=> ?_,fun ds e=>by rw [hz] at e;simp at e⟩
  · rcases List.mem_cons.1 hd with rfl|hd
    · exact ⟨D,rfl,Mx,Nat.le_trans I.hb hD⟩
    · exact IW.defers.1 d hd
  · refine List.nodup_cons.2 ⟨fun hd=> ?_,IW.defers.2⟩
    obtain ⟨D',e1,e2,_⟩:=hM _ hd
    have e3:D=D':=by simpa using e1
    have:=(Array.getElem?_eq_some_iff.1 e2).1
    omega
  · have hc:ks.contains k=false:=by
      cases hc:ks.contains k with
      |false=>rfl
      |true=>rw [fo k hc] at e;simp at e
    exact (hun k hc).trans (DC k b e)
  · obtain ⟨h3,h4⟩:=hkc b o v h1 h2
    exact uf b o v h3 h4
 ·
  rintro D c W hD ⟨rfl,hx,sW,sZ,IW,zP,vh,rC,kV,uf,JN⟩ Mx
  have hun:=yZ sZ _ (by rw [hL] at kV;exact kV)
  have G2:Good base w0 aN N aS st' { a with defers:={ target:= .collected D,args:= #[]}::a.defers} W:=by
   refine ⟨sW,sZ,IW.marks (fun d hd=> ?_) ?_,hb.trans zP,fun b o hlt h=>hp b o hlt (vh b o hlt h),gq.trans rC,fun k b e=> ?_,fun b o v h1 h2=> ?_,fun ds e=>by rw [hz] at e;simp at e⟩
   · rcases List.mem_cons.1 hd with rfl|hd
     · exact ⟨D,rfl,Mx,Nat.le_trans I.hb hD⟩
     · exact IW.defers.1 d hd
   · refine List.nodup_cons.2 ⟨fun hd=> ?_,IW.defers.2⟩
     obtain ⟨D',e1,e2,_⟩:=hM _ hd
     have e3:D=D':=by simpa using e1
     have:=(Array.getElem?_eq_some_iff.1 e2).1
     omega
   · have hc:ks.contains k=false:=by
       cases hc:ks.contains k with
       |false=>rfl
       |true=>rw [fo k hc] at e;simp at e
     exact (hun k hc).trans (DC k b e)
   · obtain ⟨h3,h4⟩:=hkc b o v h1 h2
     exact uf b o v h3 h4
  have hq:=hQ _ _ G2
  cases x with
  |normal=>exact absurd rfl hx
  |exit id=>exact wpIn_exit hq
  |ret=>exact wpIn_ret hq
end
end Go.Proofs.YtibbgjafjhcemaaDoor.Cul
namespace Go.Proofs.YtibbgjafjhcemaaDoor.Cul
open Go Go.RowKit
section
variable {P:Program} {base:Nat} {w w0:World} {Pr aN:aC} {bk:Key→Nat} {st st':St} {a:Act} {N:Nat} {ops:Array Oper} {call:Cl} {aS:ew} {it:Nat→List PV→Option (Nat×List (List PV))}
theorem Good.val (G:Good base w0 aN N aS st a w) {x:Operand} {v:Value} (h:st.val x=some v):a.eval x=v:=by
 obtain ⟨Pr,bk,I,_⟩:=G
 exact fO I h
theorem yp {F:Fence} {m:Nat} {c:Code} {f:St→Option (Xt×St)} {x:Xt} {Q:Exit→Act→World→Prop}
  (hf:∀st a w y s,Good base w0 aN N aS st a w→f st=some (y,s)→∀Q:Exit→Act→World→Prop,(∀a' w',Good base w0 aN N aS s a' w'→Q (toExit y) a' w')→c.wpIn F m P Q a w)
  (hQ:∀a' w',Good base w0 aN N aS st' a' w'→Q (toExit x) a' w'):
  ∀(k:Nat) (st:St) (a:Act) (w:World),Good base w0 aN N aS st a w→bg f k st=some (x,st')→Code.roundsIn F m P c Q k a w
 |0,st,a,w,G,h=>by simp [bg] at h
 |k+1,st,a,w,G,h=>by
  simp only [bg,Option.bind_eq_some_iff] at h
  obtain ⟨⟨y,s⟩,h1,h2⟩:=h
  rw [roundsIn_succ]
  refine hf st a w y s G h1 _ fun a' w' G'=> ?_
  cases y with
  |normal=>exact yp hf hQ k s a' w' G' h2
  |exit id=>simp only [Option.some.injEq,Prod.mk.injEq] at h2;obtain ⟨rfl,rfl⟩:=h2;exact hQ a' w' G'
  |ret=>simp only [Option.some.injEq,Prod.mk.injEq] at h2;obtain ⟨rfl,rfl⟩:=h2;exact hQ a' w' G'
theorem gx (hC:aI P call) (hI:mJ P it) (hm:P.follows .mixedOrders=true) (note:Nat→fD) (k:Nat):∀(c:Code),bR N c=true→∀(F:Fence) (E:iG F) (m:Nat) (w0:World) (aN:aC) (aS:ew),(flat c=true∨(F=Fence.wide∧aS.ds=none∧2≤m))→(∀d∈dstsOf c,aS.k d=none)→∀(st:St) (a:Act) (w:World) (x:Xt) (st':St),Good base w0 aN N aS st a w→
  cW P call it (fun g=>bg g k) note c st=some (x,st')→∀Q:Exit→Act→World→Prop,(∀a' w',Good base w0 aN N aS st' a' w'→Q (toExit x) a' w')→c.wpIn F m P Q a w
 | .skip,_,F,E,m,w0,aN,aS,_,_,st,a,w,x,st',G,h,Q,hQ=>by
   simp only [cW,Option.some.injEq,Prod.mk.injEq] at h
   obtain ⟨rfl,rfl⟩:=h
   exact wpIn_skip (hQ a w G)
 | .region id ops dr,hok,F,E,m,w0,aN,aS,_,fo,st,a,w,x,st',G,h,Q,hQ=>by
   simp only [cW] at h
   split at h
   · rename_i hp
     simp only [Bool.and_eq_true] at hp
     obtain ⟨rfl,_⟩:=hp
     simp only [Option.map_eq_some_iff,Option.bind_eq_some_iff,Prod.mk.injEq] at h
     obtain ⟨s,⟨ls,hl,ho⟩,rfl,rfl⟩:=h
     exact Lt E m hC hm hok (fun o ho d hd=>fo d (List.mem_filterMap.2 ⟨o,ho,hd⟩)) (Good.v9 _ G) hl fun s' hs' a' w' G'=>hQ a' w' (by rw [←DV ho s' hs'];exact G'.bK _)
   simp only [Option.map_eq_some_iff,Prod.mk.injEq] at h
   obtain ⟨s,hs,rfl,rfl⟩:=h
   exact ym E m hC hm hok (fun o ho d hd=>fo d (List.mem_filterMap.2 ⟨o,ho,hd⟩)) (Good.v9 _ G) hs fun a' w' G'=>hQ a' w' (G'.bK _)
 | .seq p q,hok,F,E,m,w0,aN,aS,hF,fo,st,a,w,x,st',G,h,Q,hQ=>by
   simp only [bR,Bool.and_eq_true] at hok
   simp only [flat,Bool.and_eq_true] at hF
   simp only [cW,Option.bind_eq_some_iff] at h
   obtain ⟨⟨y,s⟩,h1,h2⟩:=h
   refine wpIn_seq (gx hC hI hm note k p hok.1 F E m w0 aN aS (hF.imp And.left id) (fun d hd=>fo d (List.mem_append_left _ hd)) st a w y s G h1 _ fun a' w' G'=> ?_)
   cases y with
   |normal=>exact gx hC hI hm note k q hok.2 F E m w0 aN aS (hF.imp And.right id) (fun d hd=>fo d (List.mem_append_right _ hd)) s a' w' x st' G' h2 Q hQ
   |exit id=>simp only [Option.some.injEq,Prod.mk.injEq] at h2;obtain ⟨rfl,rfl⟩:=h2;exact hQ a' w' G'
   |ret=>simp only [Option.some.injEq,Prod.mk.injEq] at h2;obtain ⟨rfl,rfl⟩:=h2;exact hQ a' w' G'
 | .cond c t e,hok,F,E,m,w0,aN,aS,hF,fo,st,a,w,x,st',G,h,Q,hQ=>by
   simp only [bR,Bool.and_eq_true] at hok
   simp only [flat,Bool.and_eq_true] at hF
   simp only [cW,Option.bind_eq_some_iff] at h
   obtain ⟨v,hv,h⟩:=h
   have Fh:=G.val hv
   split at h
   · exact wpIn_cond_true Fh (gx hC hI hm note k t hok.1 F E m w0 aN aS (hF.imp And.left id) (fun d hd=>fo d (List.mem_append_left _ hd)) st a w x st' G h Q hQ)
   · exact wpIn_cond_false Fh (gx hC hI hm note k e hok.2 F E m w0 aN aS (hF.imp And.right id) (fun d hd=>fo d (List.mem_append_right _ hd)) st a w x st' G h Q hQ)
   · simp at h
 | .block id c,hok,F,E,m,w0,aN,aS,hF,fo,st,a,w,x,st',G,h,Q,hQ=>by
   simp only [bR] at hok
   simp only [flat] at hF
   simp only [cW,Option.map_eq_some_iff] at h
   obtain ⟨⟨y,s⟩,h1,h2⟩:=h
   refine wpIn_block (gx hC hI hm note k c hok F E m w0 aN aS hF fo st a w y s G h1 _ fun a' w' G'=> ?_)
   cases y with
   |normal=>simp only [Prod.mk.injEq] at h2;obtain ⟨rfl,rfl⟩:=h2;exact hQ a' w' G'
   |exit j=>
    simp only [toExit,Exit.inBlock]
    simp only at h2
    split at h2
    · rename_i hj;rw [if_pos hj];simp only [Prod.mk.injEq] at h2;obtain ⟨rfl,rfl⟩:=h2;exact hQ a' w' G'
    · rename_i hj;rw [if_neg hj];simp only [Prod.mk.injEq] at h2;obtain ⟨rfl,rfl⟩:=h2;exact hQ a' w' G'
   |ret=>simp only [Prod.mk.injEq] at h2;obtain ⟨rfl,rfl⟩:=h2;exact hQ a' w' G'
 | .loop c,hok,F,E,m,w0,aN,aS,hF,fo,st,a,w,x,st',G,h,Q,hQ=>by
   simp only [bR] at hok
   simp only [flat] at hF
   simp only [cW] at h
   exact wpIn_loop_rounds k (yp (f:=cW P call it (fun g=>bg g k) note c) (fun st a w y s G h Q hQ=>gx hC hI hm note k c hok F E m w0 aN aS hF fo st a w y s G h Q hQ) hQ k st a w G h)
 | .rangeFunc g ps gp body,hok,F,E,m,w0,aN,aS,hF,fo,st,a,w,x,st',G,h,Q,hQ=>by
   simp only [bR,Bool.and_eq_true] at hok
   obtain ⟨⟨⟨⟨MY,zW⟩,Nd⟩,Nf⟩,hps⟩:=hok
   rcases hF with hF|⟨rfl,hz,h1⟩
   · simp [flat] at hF
   · simp only [cW,Option.bind_eq_some_iff] at h
     obtain ⟨p,hp,h⟩:=h
     split at h
     · rename_i f caps
       simp only [Option.bind_eq_some_iff] at h
       obtain ⟨⟨n,xs⟩,hit,h⟩:=h
       split at h
       · rename_i hn
         simp only at hn;subst hn
         have hA:Part P base N (m - 1 - 1) (ps.toList++(dstsOf gp++dstsOf body)) gp (cW P call it (fun g=>bg g k) note gp):=fun l w0 aN aS st a w x s hk G h Q hQ=>
          gx hC hI hm note k gp Nd _ (uT l) (m - 1 - 1) w0 aN aS (.inl MY) (fun d hd=>hk d (by rw [List.contains_eq_mem];simp [hd])) st a w x s G h Q hQ
         have hB:Part P base N (m - 1 - 1) (ps.toList++(dstsOf gp++dstsOf body)) body (cW P call it (fun g=>bg g k) note body):=fun l w0 aN aS st a w x s hk G h Q hQ=>
          gx hC hI hm note k body Nf _ (uT l) (m - 1 - 1) w0 aN aS (.inl zW) (fun d hd=>hk d (by rw [List.contains_eq_mem];simp [hd])) st a w x s G h Q hQ
         exact AW hI h1 hA hB G hz (fun d hd=>fo d (by rw [List.contains_eq_mem] at hd;simpa [dstsOf] using hd)) (fun p hp=>by simpa using List.all_eq_true.1 hps p hp) hp hit h hQ
       · simp at h
     · simp at h
 | .exit id,_,F,E,m,w0,aN,aS,_,_,st,a,w,x,st',G,h,Q,hQ=>by
   simp only [cW,Option.some.injEq,Prod.mk.injEq] at h
   obtain ⟨rfl,rfl⟩:=h
   exact wpIn_exit (hQ a w G)
 | .ret,_,F,E,m,w0,aN,aS,_,_,st,a,w,x,st',G,h,Q,hQ=>by
   simp only [cW,Option.some.injEq,Prod.mk.injEq] at h
   obtain ⟨rfl,rfl⟩:=h
   exact wpIn_ret (hQ a w G)
 | .label _,hok,_,_,_,_,_,_,_,_,_,_,_,_,_,_,_,_,_=>by simp [bR] at hok
 | .goto _,hok,_,_,_,_,_,_,_,_,_,_,_,_,_,_,_,_,_=>by simp [bR] at hok
end
end Go.Proofs.YtibbgjafjhcemaaDoor.Cul
