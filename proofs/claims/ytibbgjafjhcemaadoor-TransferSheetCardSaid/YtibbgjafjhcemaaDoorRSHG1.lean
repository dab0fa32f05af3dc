/- Part of a proof by an abstract machine for the program's code: lemmas, without conditions of their own beyond those that each states. (Made smaller by a program: short names, no comments.) -/
import Derived.Deep.Upon
import Derived.OrdersIn
import Derived.LoopNIn
import Derived.TacticsIn
import Derived.OwnWalkIn
import Derived.RangeFuncCalls
import Derived.RangeFuncLeaves
import Derived.RangeFuncNested
import Derived.Test.YtibbgjafjhcemaaDoorRSHG0
set_option linter.unusedVariables false
set_option linter.unusedSimpArgs false
namespace Go.Proofs.YtibbgjafjhcemaaDoor.Cul
open Go Go.RowKit
section
variable {P:Program} {base:Nat} {w:World} {Pr:aD} {bk:Key→Nat} {st:St} {a:Act} {N:Nat}
theorem v5 (z:Array Value) (n s:Nat) (h:z.size=s):(Builtin.zeroCells z n).size=n* s:=by rw [size_zeroCells,h]
theorem Bp (I:Inv base w Pr bk st a N) {o:Oper} {d s n m cap b off:Nat} {old new:List PV} {olds news:List Value} {q:Pl} (kj:o.dst=some d) (hd:d<N)
  (hq:uf st q) (Fy:bk q.key=b) (Jg:∀t,q= .s t→¬ek st t)
  (hro:aT w Pr old olds) (WX:One olds) (QH:aT w Pr new news) (xP:One news) (hlo:old.length=n* s) (hln:new.length=m* s) (Sk:w.rangeAt b off olds) (WZ:∀i,i<olds.length→Pr b (off+i))
  (hR:Room w Pr b off n cap s) (hoff:off=0) (hfit:n+m≤cap)
  (he:(execOp a.eval o).run P w= .ok (.value (.slice (some ⟨b,off,none⟩) (n+m) cap)) (w.setCells b (off+n* s) news)):
  jM P base w Pr bk st a N o (({ st with gr:=st.gr.filter (fun x=>x.1≠q),tg:=st.tg.map (fT q)}).made (some d) { v:= .pv (.sl s (n+m) (old++new)),gr:=some s}):=by
 have bY:live st q.key:=by
  cases q with
  |s t=>exact .inr hq
  |c k o=>exact hq
 have hown:=I.own _ bY
 rw [Fy] at hown
 obtain ⟨cur,T,fS,gN⟩:=hR.there
 have aae:=hro.length
 have aad:=QH.length
 have hmul:(n+m)* s≤cap* s:=Nat.mul_le_mul_right _ hfit
 have RR:(n+m)* s=n* s+m* s:=Nat.add_mul ..
 have hle:off+n* s+news.length≤cur.size:=by omega
 rw [tO news (off+n* s) cur w fS hle] at he
 have hW:=mo w b (bq cur.toList (off+n* s) news).toArray fS (by rw [List.size_toArray,iZ (by simpa using hle)];simp)
 have hh:(w.setRow b (bq cur.toList (off+n* s) news).toArray).heap[b]? =some (.cells (bq cur.toList (off+n* s) news).toArray T (0,0)):=setRow_heap w _ _ _ _ _ fS
 have hsz:(bq cur.toList (off+n* s) news).length=cur.size:=by unfold bq;simp;omega
 have hcell:∀o',o'<off+n* s→(w.setRow b (bq cur.toList (off+n* s) news).toArray).cell? ⟨b,o',none⟩=w.cell? ⟨b,o',none⟩:=fun o' ho'=>by
  rw [cell_of_row _ _ _ _ _ _ hh,cell_of_row _ _ _ _ _ _ fS]
  have:=jh cur.toList (off+n* s) news (by simp;omega) o' (.inl ho')
  simpa [bq] using this
 obtain ⟨aC,dS⟩:∃aC:aD,∀b' o',aC b' o'↔(Pr b' o'∨(b'=b∧off+n* s≤o'∧o'<off+(n+m)* s)):=⟨fun b' o'=>_,fun _ _=>Iff.rfl⟩
 have hK:Kp w Pr (w.setRow b (bq cur.toList (off+n* s) news).toArray) aC:=⟨fun b' o' h=>(dS b' o').2 (.inl h),fun b' o' hp=>by
  by_cases e:b'=b
  · subst e;exact hcell o' (hR.pr o' hp)
  · exact World.cell?_of_block (w:=w) (hW.other b' e)⟩
 have I2:=(I.release q).tj hW hown.2 (fun x hx e=>by
  obtain ⟨h1,h2⟩:=kB hx Jg
  exact h2 (I.inj x q.key h1 bY (by rw [e,Fy]))) hK (fun b' o' h hne=>((dS b' o').1 h).resolve_right (fun h=>hne h.1))
 have cU:Rp (w.setRow b (bq cur.toList (off+n* s) news).toArray) aC (.sl s (n+m) (old++new)) (.slice (some ⟨b,off,none⟩) (n+m) cap):=by
  refine .sl ((aT.mono hK hro).app (aT.mono hK QH)) (fun v hv=> ?_) (by simp;omega) hfit (fun j v hj=> ?_) (fun i hi=> ?_)
  · simp only [List.mem_append] at hv;exact hv.elim (WX v) (xP v)
  · by_cases hjo:j<olds.length
    · rw [List.getElem?_append_left hjo] at hj
      rw [hcell (off+j) (by omega)];exact Sk j v hj
    · rw [List.getElem?_append_right (by omega)] at hj
      have hlt:j - olds.length<news.length:=(List.getElem?_eq_some_iff.1 hj).1
      rw [cell_of_row _ _ _ _ _ _ hh]
      simp only [List.getElem?_toArray,bq]
      rw [List.append_assoc,List.getElem?_append_right (by simp;omega),List.getElem?_append_left (by simp;omega),←hj]
      congr 1
      simp only [List.length_take,Array.length_toList]
      omega
  · simp only [List.length_append] at hi
    by_cases WJ:i<olds.length
    · exact (dS _ _).2 (.inl (WZ i WJ))
    · exact (dS _ _).2 (.inr ⟨rfl,by omega,by omega⟩)
 have hroom:Room (w.setRow b (bq cur.toList (off+n* s) news).toArray) aC b off (n+m) cap s:=
  ⟨hR.hz,hfit,⟨_,_,hh,by simp [hsz];exact gN⟩,fun o' h=>by
   rcases (dS _ _).1 h with h|h
   · have:=hR.pr o' h;omega
   · omega⟩
 have hm:dD base (w.setRow b (bq cur.toList (off+n* s) news).toArray) aC bk { st with gr:=st.gr.filter (fun x=>x.1≠q),tg:=st.tg.map (fT q)} a { v:= .pv (.sl s (n+m) (old++new)),gr:=some s} (.slice (some ⟨b,off,none⟩) (n+m) cap):=by
  refine ⟨fun _ _=>cU,fun _ _ _ h=>by simp at h,fun z hz=> ?_,fun q h=>by simp at h⟩
  simp only [Option.some.injEq] at hz;subst hz
  refine ⟨b,off,n+m,cap,_,rfl,rfl,hroom,hoff,hown.1,by simpa using hown.2,fun x hx e=> ?_⟩
  obtain ⟨h1,h2⟩:=kB hx Jg
  exact h2 (I.inj x q.key h1 bY (by rw [e,Fy]))
 obtain ⟨aS,hI,hbk⟩:=I2.je hd hm
 intro K Q zK
 unfold Oper.wp
 rw [he]
 show K (a.put o.dst _) _
 rw [kj]
 exact zK _ _ _ _ hI (hW.below hown.1) hK (fun b' o' hb' h=>((dS b' o').1 h).resolve_right (fun h=>by omega)) hW.ko (fun k _=>hbk k) rfl
theorem Dn (I:Inv base w Pr bk st a N) {o:Oper} {args:Array Operand} {ts:Array TypeId} {st':St} (ho:o.op= .call { callee:= .builtin .append,args:=args,argTypes:=ts}) (hN:∀d,o.dst=some d→d<N) (h:effect P o st=some st'):jM P base w Pr bk st a N o st':=by
 simp only [effect,ho] at h
 rw [Option.bind_eq_some_iff] at h
 obtain ⟨d,hd,h⟩:=h
 split at h
 · rename_i x y T U ha hts
   split at h
   · rename_i e e' hT hU
     simp only [Option.bind_eq_some_iff] at h
     obtain ⟨s,hs,z,hz,p,hp,⟨n,old⟩,hv,⟨m,new⟩,hy,h⟩:=h
     split at h
     · rename_i hc
       obtain ⟨fS,gN,Qw,Wt,Ff,L9⟩:=hc
       simp only at fS gN Ff L9
       obtain ⟨i,hi,Fo⟩:=jg hs
       obtain ⟨i',zv,hi',qU,qT⟩:=lD (w:=w) (Pr:=Pr) hz
       rw [hi] at hi';cases hi'
       have hzl:zv.cells.size=s:=by
        obtain ⟨Ae,_⟩:=qT.iM (iS (jd hz))
        have:=Ae.length
        rw [Wt] at this;simpa using this.symm
       obtain ⟨news,xP,hn2,hsrc⟩:=Oh (P:=P) I (Option.bind_eq_some_iff.2 hy) Ff hU
       have DF:Src P i.size U (a.eval y) m news w:=by rw [Fo];exact hsrc
       have hbytes:P.bytesOf e=i.bytes:=by simp [Program.bytesOf,hi]
       rw [hbytes] at fS
       unfold room at fS gN
       have QN:=Bh hv (iH I hp)
       have grow:∀(kT:St) (I2:Inv base w Pr bk kT a N) (A:Option Addr) (cap:Nat) (olds:List Value),a.eval x= .slice A n cap→aT w Pr old olds→One olds→
         (Builtin.firstCells i.size n (.slice A n cap)).run P w.drew= .ok olds.toArray w.drew→cap<n+m→jM P base w Pr bk st a N o (kT.made (some d) { v:= .pv (.sl s (n+m) (old++new)),gr:=some s}):=by
        intro kT I2 A cap olds hx hro DE hf hgt
        have hrun:=run_append_grow_src w T U o.type e i zv hT hi qU A n cap olds hf (a.eval y) m news DF hgt (by omega) (growslice_fits hgt (by simpa using fS))
        have hge:=grownCap_ge w (n+m) cap e
        refine EW (P:=P) (c:=grownCap w (n+m) cap e) (tail:=Builtin.zeroCells zv.cells (grownCap w (n+m) cap e - (n+m))) (e:=e) I2 hd (hN d hd) Qw (hro.app xP) (fun v hv=>by simp only [List.mem_append] at hv;exact hv.elim (DE v) (hn2 v)) (by simp only [List.length_append];rw [Nat.add_mul];omega) hge (v5 _ _ _ hzl) ?_
        refine ot ho ha hts ?_
        rw [hx];exact hrun
       split at h
       · rename_i v0
         rcases QN with ⟨rfl,rfl,hx⟩|⟨sz,b,o',cap,vs,Je,_⟩
         · split at h
           · rename_i hm0
             simp only [Option.some.injEq] at h;subst h
             simp only at hm0;subst hm0
             have hnews:news=[]:=List.eq_nil_of_length_eq_zero (by rw [←xP.length];simpa using Ff)
             subst hnews
             rw [gj]
             refine gY I hd (hN d hd) (v:= .slice none 0 0) ?_ (bD (by have:=iH I hp;rw [hx] at this;exact this))
             refine ot ho ha hts ?_
             rw [hx]
             exact run_append_nothing w T U o.type e i hT hi none 0 0 (Nat.le_refl _) (a.eval y) DF
           · rename_i hm0
             simp only [Option.some.injEq] at h;subst h
             simp only at hm0
             have:=grow st I none 0 [] hx .nil (fun _ h=>by simp at h) (run_firstCells_none _ _ _ _ _) (by omega)
             simpa using this
         · simp at Je
       · rename_i hnl
         rcases QN with ⟨rfl,rfl,hx⟩|⟨sz,b,off,cap,olds,Je,hx,hro,DE,hlo,aag,MG,Jf⟩
         ·
            split at h
            · rename_i t
              simp only [Option.map_eq_some_iff] at h
              obtain ⟨q,hq,h⟩:=h
              exfalso
              have hval:aQ st.gr q=some s∧(q= .s t∨st.tag t=some q):=by
               split at hq
               · rename_i hg;simp only [Option.some.injEq] at hq;subst hq;exact ⟨hg, .inl rfl⟩
               · split at hq
                 · rename_i q' qa
                   split at hq
                   · rename_i hg;simp only [Option.some.injEq] at hq;subst hq;exact ⟨hg, .inr qa⟩
                   · simp at hq
                 · simp at hq
              obtain ⟨v,cy,_⟩:=I.slots t (.pv p) (yN hp)
              have FF:a.eval (.tmp t)=v:=iN cy
              rw [hx] at FF
              have fm:cT a w bk q=a.tmps[t]? :=by
               rcases hval.2 with rfl|qa
               · rfl
               · simp only [St.tag,Option.bind_eq_some_iff,id] at qa
                 obtain ⟨_,h1,rfl⟩:=qa
                 exact I.tags t q h1 ⟨s,hval.1⟩
              cases q with
              |s u=>
               obtain ⟨_,_,_,_,_,e2,_⟩:=I.gL u s hval.1
               simp only [cT] at fm;rw [e2,cy,←FF] at fm;simp at fm
              |c k j=>
               obtain ⟨_,_,_,_,_,_,_,e2,_⟩:=I.iF k j s hval.1
               simp only [cT] at fm;rw [e2,cy,←FF] at fm;simp at fm
            · simp at h
         · split at h
           · rename_i t
             simp only [Option.map_eq_some_iff] at h
             obtain ⟨q,hq,rfl⟩:=h
             have hval:aQ st.gr q=some s∧(q= .s t∨st.tag t=some q):=by
              split at hq
              · rename_i hg;simp only [Option.some.injEq] at hq;subst hq;exact ⟨hg, .inl rfl⟩
              · split at hq
                · rename_i q' qa
                  split at hq
                  · rename_i hg;simp only [Option.some.injEq] at hq;subst hq;exact ⟨hg, .inr qa⟩
                  · simp at hq
                · simp at hq
             obtain ⟨v,cy,_⟩:=I.slots t (.pv p) (yN hp)
             have FF:a.eval (.tmp t)=v:=iN cy
             have fm:cT a w bk q=a.tmps[t]? :=by
              rcases hval.2 with rfl|qa
              · rfl
              · simp only [St.tag,Option.bind_eq_some_iff,id] at qa
                obtain ⟨_,h1,rfl⟩:=qa
                exact I.tags t q h1 ⟨s,hval.1⟩
             rw [cy,←FF,hx] at fm
             have WD:uf st q:=⟨s,hval.1⟩
             obtain ⟨Fy,hR,hoff,Jg⟩:bk q.key=b∧Room w Pr b off n cap s∧off=0∧(∀t,q= .s t→¬ek st t):=by
              cases q with
              |s u=>
               obtain ⟨o2,n2,Lr,c2,e1,e2,e3,e0⟩:=I.gL u s hval.1
               simp only [cT] at fm
               rw [e2] at fm
               simp only [Option.some.injEq,Value.slice.injEq,Addr.mk.injEq] at fm
               obtain ⟨⟨h1,rfl,_⟩,rfl,rfl⟩:=fm
               refine ⟨h1,by rw [←h1];exact e3,e0,fun t ht ⟨_,_,_,hx⟩=> ?_⟩
               cases ht;rw [e1] at hx;simp at hx
              |c k j=>
               obtain ⟨o2,n2,Lr,c2,dw,e0,e1,e2,e3,e9⟩:=I.iF k j s hval.1
               simp only [cT] at fm
               rw [e2] at fm
               simp only [Option.some.injEq,Value.slice.injEq,Addr.mk.injEq] at fm
               obtain ⟨⟨h1,rfl,_⟩,rfl,rfl⟩:=fm
               exact ⟨h1,by rw [←h1];exact e3,e9,fun t ht=>by simp at ht⟩
             by_cases hfit:n+m≤cap
             · refine Bp (P:=P) (b:=b) (off:=off) (cap:=cap) I hd (hN d hd) WD Fy Jg hro DE xP hn2 L9 Ff MG Jf hR hoff hfit ?_
               refine ot ho ha hts ?_
               rw [hx]
               obtain ⟨cur,T',fG,hcs⟩:=hR.there
               have hmul:(n+m)* s≤cap* s:=Nat.mul_le_mul_right _ hfit
               have RR:(n+m)* s=n* s+m* s:=Nat.add_mul ..
               have aan:news.length=m* s:=by rw [←xP.length];exact Ff
               have:=run_append_room_src w T U o.type e i hT hi b off n cap (a.eval y) m news DF hfit (fun j hj=>by
                rw [cell_of_row _ _ _ _ _ _ fG,Fo]
                rw [Array.getElem?_eq_getElem (by omega)];rfl) (fun j hj=>frozen_of_row _ _ _ _ _ fG)
               rw [Fo] at this
               exact this
             · refine grow _ (I.release q) (some ⟨b,off,none⟩) cap olds hx hro DE ?_ (by omega)
               exact run_firstCells_some w.drew i.size n ⟨b,off,none⟩ n cap olds (by rw [Fo,←hro.length];exact L9) (fun j v hj=>by rw [Addr.add_mid];exact MG j v hj)
           · simp at h
     · simp at h
   · simp at h
 · simp at h
theorem sC {α:Type} (z:List α):∀(n m:Nat),n≤m→(bh z m).take (n* z.length)=bh z n
 |0,m,h=>by simp [bh]
 |n+1,0,h=>by omega
 |n+1,m+1,h=>by
  simp only [bh,Nat.add_mul,Nat.one_mul]
  rw [List.take_append,List.take_of_length_le (by omega),show n* z.length+z.length - z.length=n* z.length by omega,sC z n m (by omega)]
theorem tS {α:Type} {z:List α}:∀n v,v∈bh z n→v∈z
 |0,v,h=>by simp [bh] at h
 |n+1,v,h=>by
  simp only [bh,List.mem_append] at h
  exact h.elim id (tS n v)
theorem yE (I:Inv base w Pr bk st a N) {o:Oper} {t:TypeId} {l c:Operand} {st':St} (ho:o.op= .makeSlice t l c) (hN:∀d,o.dst=some d→d<N) (h:effect P o st=some st'):jM P base w Pr bk st a N o st':=by
 simp only [effect,ho] at h
 rw [Option.bind_eq_some_iff] at h
 obtain ⟨d,hd,h⟩:=h
 split at h
 · rename_i e n m hu hl hc
   rw [Option.bind_eq_some_iff] at h
   obtain ⟨s,hs,h⟩:=h
   rw [Option.bind_eq_some_iff] at h
   obtain ⟨z,hz,h⟩:=h
   split at h
   · rename_i g9
     obtain ⟨hn0,hnm,hb,hm,hzl,hs0⟩:=g9
     obtain ⟨kn,hkn⟩:=int_eq I hl
     obtain ⟨km,hkm⟩:=int_eq I hc
     obtain ⟨i,hi,Fo⟩:=jg hs
     obtain ⟨i',zv,hi',qU,qT⟩:=lD (w:=w) (Pr:=Pr) hz
     rw [hi] at hi';cases hi'
     obtain ⟨Ae,B5⟩:=qT.iM (iS (jd hz))
     have hzs:zv.cells.size=s:=by have:=Ae.length;rw [hzl] at this;simpa using this.symm
     have hbytes:P.bytesOf e=i.bytes:=by simp [Program.bytesOf,hi]
     rw [hbytes] at hb
     unfold room at hb hm
     have hwn:IntKind.i64.wrap n=n:=IntWalk.i64_in _ (by omega)
     have Xl:IntKind.i64.wrap m=m:=IntWalk.i64_in _ (by omega)
     have Ws:(i.bytes:Int)* m≤140737488355328:=by rw [Int.mul_comm];exact hb
     have hbn:(i.bytes:Int)* n≤140737488355328:=Int.le_trans (Int.mul_le_mul_of_nonneg_left hnm (by omega)) Ws
     have MZ:((Array.range (m.toNat* s)).map (zv.cells[· %zv.cells.size]!))=(bh zv.cells.toList m.toNat).toArray:=by rw [←hzs];exact Bj _ _
     have hrun:(execOp a.eval o).run P w= .ok (.value (.slice (some ⟨w.heap.size,0,none⟩) n.toNat m.toNat)) (w.alloc (.cells (bh zv.cells.toList m.toNat).toArray e)):=by
      simp only [execOp,ho,hkn,hkm]
      refine cW ?_
      have rL:=vU (P:=P) e (bh zv.cells.toList m.toNat).toArray w
      have h1:¬(m<0):=by omega
      have h2:¬(281474976710656<(i.bytes:Int)* m):=by omega
      have h3:¬(n<0):=by omega
      have h4:¬(m<n):=by omega
      have hroom:(askRoom (m.toNat* i.bytes)).run P w= .ok () w:=by
       unfold askRoom;split<;>rfl
      have hT:(underlying t).run P w= .ok (.slice e) w:=fB hu w
      have Sv:(zeroValue e).run P w= .ok zv w:=by simp [zeroValue,typeInfo,hi,qU]
      have RW:¬(decide (m<0)||decide (↑i.bytes* m>2^48)||decide (n<0)||decide (n>m))=true:=by
       simp only [Bool.or_eq_true,decide_eq_true_eq,not_or]
       refine ⟨⟨⟨h1, ?_⟩,h3⟩, ?_⟩<;>omega
      unfold Instr.makeSlice
      rw [Sem.run_bind,hT,Result.andThen_ok]
      simp only [Sem.run_bind,asInt,asIntOf,typeInfo,program,Sem.run,hi,hwn,Xl,Sem.run_pure,Result.andThen_ok]
      rw [if_neg RW]
      simp only [Sem.run_bind,Sem.run_pure,Result.andThen_ok,hroom,fX hs]
      by_cases hm0:m.toNat* s=0
      · have:m.toNat=0:=(Nat.mul_eq_zero.1 hm0).resolve_right (by omega)
        simp only [if_pos hm0,Sem.run_bind,Sem.run_pure,Result.andThen_ok]
        rw [this] at rL ⊢
        simp only [Nat.zero_mul,bh] at rL ⊢
        have B3:(Array.map (fun x=>(#[]:Array Value)[x%(#[]:Array Value).size]!) (Array.range 0))= #[]:=by simp
        rw [B3]
        rw [rL];rfl
      · simp only [if_neg hm0,Sem.run_bind,Sem.run_pure,Result.andThen_ok,Sv,MZ,rL]
     have hf:=rE I (.cells (bh zv.cells.toList m.toNat).toArray e)
     have hh:(w.alloc (.cells (bh zv.cells.toList m.toNat).toArray e)).heap[w.heap.size]? =some (.cells (bh zv.cells.toList m.toNat).toArray e (0,0)):=heap_alloc w _
     have M0:(bh zv.cells.toList m.toNat).length=m.toNat* s:=by rw [fE];simp [hzs]
     have MH:∀k,k≤m.toNat→Room (w.alloc (.cells (bh zv.cells.toList m.toNat).toArray e)) Pr w.heap.size 0 k m.toNat s:=fun k hk=>
      ⟨hs0,hk,⟨_,_,hh,by simp [M0]⟩,fun o' h=>absurd (I.bP _ _ h) (by omega)⟩
     have hfree:∀x,live st x→bk x≠w.heap.size:=fun x hx e=>by have:=(I.own x hx).2;omega
     have fin:∀(mm:Made),dD base (w.alloc (.cells (bh zv.cells.toList m.toNat).toArray e)) Pr bk st a mm (.slice (some ⟨w.heap.size,0,none⟩) n.toNat m.toNat)→jM P base w Pr bk st a N o (st.made (some d) mm):=by
      intro mm hm K Q hK
      obtain ⟨aS,hI,hbk⟩:=(I.fw hf).je (hN d hd) hm
      unfold Oper.wp
      rw [hrun]
      show K (a.put o.dst _) _
      rw [hd]
      exact hK _ _ _ _ hI (hf.gX.mono I.hb) (hf.kp I.bP) (fun b o hb h=>hf.old b o (Nat.lt_of_lt_of_le hb I.hb) h) hf.ko (fun k _=>hbk k) rfl
     split at h
     · rename_i Mv
       simp only [Option.some.injEq] at h;subst h
       subst Mv
       refine fin _ ⟨fun _ _=> ?_,fun _ _ _ h=>by simp at h,fun z' dx=> ?_,fun q h=>by simp at h⟩
       · exact Rp.sl (vs:=[]) .nil (by simp) (by simp) (by simp) (fun j v hj=>by simp at hj) (fun i hi=>by simp at hi)
       · simp only [Option.some.injEq] at dx;subst dx
         exact ⟨w.heap.size,0,0,m.toNat,[],rfl,rfl,MH 0 (by omega),rfl,I.hb,by simp,hfree⟩
     · rename_i Mv
       have hpre:bh zv.cells.toList n.toNat<+:(bh zv.cells.toList m.toNat).toArray.toList:=by
        have xQ:=sC zv.cells.toList n.toNat m.toNat (by omega)
        rw [←xQ];simpa using List.take_prefix _ _
       have Su:=aT.mono (hf.kp I.bP) (qG Ae n.toNat)
       have aaf:(bh z.cells n.toNat).length=n.toNat* s:=by rw [fE,hzl]
       intro K Q hK
       obtain ⟨aS,hI,_,hbk⟩:=(I.fw hf).dB (uJ:= .bs d 0 s n.toNat) (v0:= .slice (some ⟨w.heap.size,0,none⟩) n.toNat m.toNat) (hN d hd) hh hpre I.hb hfree (fun o' h=>absurd (I.bP _ _ h) (by omega)) Su (fun v hv=>B5 v (tS n.toNat v hv)) rfl (by simp)
        (fun kT a2 gH t h1 h2=>⟨0,m.toNat,_,_,e,by rw [h2], .inl rfl,h1,by omega,hs0,by omega,by rw [h2];exact hh,by simp [M0]⟩) h
       unfold Oper.wp
       rw [hrun]
       show K (a.put o.dst _) _
       rw [hd]
       exact hK _ _ _ _ hI (hf.gX.mono I.hb) (hf.kp I.bP) (fun b o hb h=>hf.old b o (Nat.lt_of_lt_of_le hb I.hb) h) hf.ko (fun k hk=>hbk k (fun e=>hk (by rw [hd,e]))) rfl
   · simp at h
 · simp at h
end
end Go.Proofs.YtibbgjafjhcemaaDoor.Cul
namespace Go.Proofs.YtibbgjafjhcemaaDoor.Cul
open Go Go.RowKit
section
variable {P:Program} {base:Nat} {w:World} {Pr:aD} {bk:Key→Nat} {st:St} {a:Act} {N:Nat}
theorem Inv.dh (I:Inv base w Pr bk st a N) {w':World} {k:Nat} {cs cs':List PV} {c c':Array Value} {T:TypeId} {us':List Value} (hk:look st.bx k=some cs) (hlen:cs'.length=cs.length)
  (hos:w'.os=w.os) (Xh:w'.tape=w.tape) (hout:w'.output=w.output) (hsz:w.heap.size≤w'.heap.size) (z7:∀j,j<w.heap.size→j≠bk (.bx k)→w'.heap[j]? =w.heap[j]?)
  (hb:w.heap[bk (.bx k)]? =some (.cells c T (0,0))) (hb':w'.heap[bk (.bx k)]? =some (.cells c' T (0,0))) (hs:c'.size=c.size) (hpre:us'<+:c'.toList) (hr:aT w' Pr cs' us') (h1:One us'):
  Inv base w' Pr bk (st.dh k cs') a N∧Below base w w'∧Kp w Pr w' Pr∧KO w w':=by
 have hown:=I.own (.bx k) ⟨cs,hk⟩
 have hfree:=(I.boxes k cs hk).2
 have hK:Kp w Pr w' Pr:=⟨fun _ _ h=>h,fun b o hp=>by
  have hne:b≠bk (.bx k):=fun e=>hfree o (by rw [←e];exact hp)
  exact World.cell?_of_block (w:=w) (z7 b (I.bP b o hp) hne)⟩
 have gq:KO w w':=⟨⟨hsz,fun j o h ho=>by
  have hne:j≠bk (.bx k):=fun e=>by subst e;rw [hb] at h;cases h;simp [Obj.isCells] at ho
  exact (z7 j (Array.getElem?_eq_some_iff.1 h).1 hne).trans h⟩,fun j c2 T2 VE h=>by
  by_cases e:j=bk (.bx k)
  · subst e;rw [hb] at h;cases h;exact ⟨c',hb',hs⟩
  · exact ⟨c2,(z7 j (Array.getElem?_eq_some_iff.1 h).1 e).trans h,rfl⟩⟩
 have hne:∀x,live st x→x≠ .bx k→bk x≠bk (.bx k):=fun x hx oW e=>oW (I.inj x (.bx k) hx ⟨cs,hk⟩ e)
 have hlv:∀x,live st x→x≠ .bx k→w'.heap[bk x]? =w.heap[bk x]? :=fun x hx oW=>z7 _ (I.own x hx).2 (hne x hx oW)
 have dF:∀j aK,look (st.dh k cs').bx j=some aK→(j=k∧aK=cs')∨(j≠k∧look st.bx j=some aK):=by
  intro j aK hq
  simp only [St.dh,look] at hq
  split at hq
  · rename_i e;simp only [Option.some.injEq] at hq;exact .inl ⟨e.symm,hq.symm⟩
  · rename_i e;rw [bI,if_neg (Ne.symm e)] at hq;exact .inr ⟨Ne.symm e,hq⟩
 have zQ:∀j aK,look st.bx j=some aK→∃qL,look (st.dh k cs').bx j=some qL∧qL.length=aK.length:=fun j aK e=>by
  simp only [St.dh,look]
  by_cases hj:k=j
  · subst hj;rw [if_pos rfl];rw [hk] at e;cases e;exact ⟨_,rfl,hlen⟩
  · rw [if_neg hj,bI,if_neg (Ne.symm hj)];exact ⟨aK,e,rfl⟩
 have eT:∀p z,aQ (st.dh k cs').gr p=some z→p.eZ k=true∧aQ st.gr p=some z:=by
  intro p z hp
  simp only [St.dh] at hp
  rw [fJ] at hp
  split at hp
  · exact ⟨‹_›,hp⟩
  · simp at hp
 have bY:∀x,live (st.dh k cs') x→live st x:=by
  intro x hx
  cases x with
  |bx j=>
   obtain ⟨aK,hq⟩:=hx
   rcases dF j aK hq with ⟨rfl,_⟩|⟨_,hq⟩
   · exact ⟨cs,hk⟩
   · exact ⟨aK,hq⟩
  |sx t=>
   rcases hx with hx|⟨z,hz⟩
   · exact .inl hx
   · exact .inr ⟨z,(eT _ z hz).2⟩
  |cx j o=>obtain ⟨z,hz⟩:=hx;exact ⟨z,(eT _ z hz).2⟩
 have hroom:∀x,live st x→x≠ .bx k→∀{o n cap sz},Room w Pr (bk x) o n cap sz→Room w' Pr (bk x) o n cap sz:=fun x hx oW {o n cap sz} h=>
  ⟨h.hz,h.le,by obtain ⟨c,T,e1,e2⟩:=h.there;exact ⟨c,T,(hlv x hx oW).trans e1,e2⟩,h.pr⟩
 refine ⟨?_,⟨hos,Xh,hout,hsz,fun j hj=>z7 j (Nat.lt_of_lt_of_le hj I.hb) (by omega)⟩,hK,gq⟩
 constructor
 · exact I.size
 · exact ⟨fun d hd=>(I.defers.1 d hd).ko gq,I.defers.2⟩
 · exact Nat.le_trans I.hb hsz
 · exact fun b o h=>Nat.lt_of_lt_of_le (I.bP b o h) hsz
 · intro t av ht
   obtain ⟨v,hv,cU⟩:=I.slots t av ht
   refine ⟨v,hv, ?_⟩
   have ki:∀{j off sz n v},fZ st w bk j off sz n v→fZ (st.dh k cs') w' bk j off sz n v:=fun {j off sz n v} h=>h.to rfl (zQ j) (fun c T e=>gq.sized _ c T _ e)
   cases av with
   |pv p=>exact Rp.mono hK cU
   |bp j off=>exact cU
   |cl f caps=>obtain ⟨vs,h1,h2,h3⟩:=cU;exact ⟨vs,h1,h2,fun i c u hc hu=>gB.mono hK (h3 i c u hc hu)⟩
   |ex sz n c=>
    obtain ⟨o,cap,vs,h1,h2,h3,h4,h5,h6,h7⟩:=cU
    have hl:live st (.sx t):= .inl ⟨sz,n,c,ht⟩
    exact ⟨o,cap,vs,h1,aT.mono hK h2,h3,h4,iW (hlv _ hl (by simp)) h5,hroom _ hl (by simp) h6,h7⟩
   |xr u=>exact cU
   |xe u off=>exact cU
   |cr _ _=>exact cU
   |dead=>trivial
   |bs j off sz n=>exact ki cU
   |mv f j off sz n=>obtain ⟨u,h1,h2⟩:=cU;exact ⟨u,h1,ki h2⟩
   |tg j off sz n rest=>obtain ⟨u,us,h1,h2,h3⟩:=cU;exact ⟨u,us,h1,ki h2,aT.mono hK h3⟩
 · exact fun x hx=>⟨(I.own x (bY x hx)).1,Nat.lt_of_lt_of_le (I.own x (bY x hx)).2 hsz⟩
 · exact fun x y hx hy=>I.inj x y (bY x hx) (bY y hy)
 · intro j aK hq
   rcases dF j aK hq with ⟨rfl,rfl⟩|⟨oT,hq⟩
   · exact ⟨⟨T,c',us',hb',hpre,hr,h1⟩,hfree⟩
   · obtain ⟨⟨T',c2,Y9,e1,e0,e2,e3⟩,e4⟩:=I.boxes j aK hq
     exact ⟨⟨T',c2,Y9,(hlv (.bx j) ⟨aK,hq⟩ (by simpa using oT)).trans e1,e0,aT.mono hK e2,e3⟩,e4⟩
 · intro t z hz
   obtain ⟨_,hz⟩:=eT _ z hz
   obtain ⟨o,n,cap,c2,e1,e2,e3,e0⟩:=I.gL t z hz
   exact ⟨o,n,cap,c2,e1,e2,hroom (.sx t) (.inr ⟨z,hz⟩) (by simp) e3,e0⟩
 · intro j i z hz
   obtain ⟨hnb,hz⟩:=eT _ z hz
   have oT:j≠k:=by simpa [Pl.eZ] using hnb
   obtain ⟨o,n,cap,c2,dw,e1,e2,e3,e4,e0⟩:=I.iF j i z hz
   refine ⟨o,n,cap,c2,dw, ?_,e2, ?_,hroom (.cx j i) ⟨z,hz⟩ (by simp) e4,e0⟩
   · simp only [St.dh,look];rw [if_neg (Ne.symm oT),bI,if_neg oT];exact e1
   · rw [←e3];exact World.cell?_of_block (w:=w) (hlv (.bx j) ⟨dw,e1⟩ (by simpa using oT))
 · intro t q ht hq
   simp only [St.dh] at ht
   rw [cg (mQ k) (fun _ x=>x.bind fun p=>if p.eZ k then some p else none) (fun _=>rfl)] at ht
   cases hm:look st.tg t with
   |none=>simp [hm] at ht
   |some p=>
    simp only [hm,Option.map_some,Option.some.injEq,Option.bind_eq_some_iff] at ht
    obtain ⟨p',rfl,ht⟩:=ht
    split at ht
    · rename_i hnb
      simp only [Option.some.injEq] at ht;subst ht
      obtain ⟨z,hz⟩:=hq
      obtain ⟨_,hz⟩:=eT _ z hz
      rw [←I.tags t _ hm ⟨z,hz⟩]
      cases p' with
      |s u=>rfl
      |c j i=>
       obtain ⟨o,n,cap,c2,dw,e1,_⟩:=I.iF j i z hz
       have oT:j≠k:=by simpa [Pl.eZ] using hnb
       simp only [cT]
       exact World.cell?_of_block (w:=w) (hlv (.bx j) ⟨dw,e1⟩ (by simpa using oT))
    · simp at ht
end
end Go.Proofs.YtibbgjafjhcemaaDoor.Cul
namespace Go.Proofs.YtibbgjafjhcemaaDoor.Cul
open Go Go.RowKit
section
variable {P:Program} {base:Nat} {w:World} {Pr:aD} {bk:Key→Nat} {st:St} {a:Act} {N:Nat}
inductive nV (st:St) (a:Act) (w:World) (Pr:aD) (bk:Key→Nat):List AV→List Value→Prop
 |nil:nV st a w Pr bk [] []
 |cons {av:AV} {v:Value} {gG:List AV} {vs:List Value} {t:Nat} (h:dQ st a w Pr bk t av v) (hs:nV st a w Pr bk gG vs):nV st a w Pr bk (av::gG) (v::vs)
theorem uc (I:Inv base w Pr bk st a N):∀{l:List Operand} {gG:List AV},sM st l=some gG→nV st a w Pr bk gG (l.map a.eval)
 |[],gG,h=>by simp [sM] at h;subst h;exact .nil
 |x::l,gG,h=>by
  simp only [sM,Option.bind_eq_some_iff,Option.map_eq_some_iff] at h
  obtain ⟨v,hv,r,hr,rfl⟩:=h
  obtain ⟨t,h1⟩:=fk I hv
  exact .cons h1 (uc I hr)
theorem Bn (I:Inv base w Pr bk st a N) {o:Oper} {f:Nat} {gG:List AV} (h:iL st o=some (f,gG)):∃us:List Value,execOp a.eval o=callFunc f us.toArray∧nV st a w Pr bk gG us:=by
 unfold iL at h
 split at h
 · rename_i g args ts ho
   split at h
   · rename_i f' hg
     simp only [Option.map_eq_some_iff,Prod.mk.injEq] at h
     obtain ⟨l,hl,rfl,rfl⟩:=h
     have tE:=ei I hg
     generalize hge:a.eval g=gv at tE
     cases tE with
     |fn hcs=>
      cases hcs
      exact ⟨_,by simpa using lX (cs:=[]) ho hge,uc I hl⟩
   · rename_i f' k off sz n hg
     simp only [Option.map_eq_some_iff,Prod.mk.injEq] at h
     obtain ⟨l,hl,rfl,rfl⟩:=h
     obtain ⟨u,hge,hu⟩:=OT I hg
     refine ⟨u::args.toList.map a.eval, ?_, .cons (t:=0) hu (uc I hl)⟩
     have: #[u]++args.map a.eval=(u::args.toList.map a.eval).toArray:=Array.ext' (by simp)
     simp [execOp,ho,resolve,hge,Deferred.ofValue,invoke,this]
   · simp at h
 · simp at h
theorem r5 {w:World} {Pr:aD} {bk:Key→Nat}:∀(caps:List Cap) (vs:List Value) (ps:List PV),vs.length=caps.length→(∀(i:Nat) (c:Cap) (u:Value),caps[i]? =some c→vs[i]? =some u→gB w Pr bk c u)→iU caps=some ps→aT w Pr ps vs
 |[],[],ps,_,_,h=>by simp only [iU,Option.some.injEq] at h;subst h;exact .nil
 |[],v::vs,ps,hl,_,h=>by simp at hl
 |c::caps,[],ps,hl,_,h=>by simp at hl
 | .pv p::caps,v::vs,ps,hl,hc,h=>by
   simp only [iU,Option.map_eq_some_iff] at h
   obtain ⟨qs,hq,rfl⟩:=h
   exact .cons (hc 0 _ v rfl rfl) (r5 caps vs qs (by simpa using hl) (fun i c u h1 h2=>hc (i+1) c u (by simpa using h1) (by simpa using h2)) hq)
 | .bp k off::caps,v::vs,ps,hl,hc,h=>by simp [iU] at h
theorem Lu {w:World} {Pr:aD} {bk:Key→Nat} {st:St} {a:Act} {t f:Nat} {caps:List Cap} {ps:List PV} {v:Value} (h:dQ st a w Pr bk t (.cl f caps) v) (hp:iU caps=some ps):Rp w Pr (.fn f ps) v:=by
 obtain ⟨vs,rfl,h1,h2⟩:=h
 exact .fn (r5 caps vs ps h1 h2 hp)
theorem vA {b size:Nat} {mC:List PV} {js:Nat}:∀{gG:List AV} {ms:List MA} {us:List Value},gG.any cw=false→n4 st gG=some ms→nV st a w Pr bk gG us→m6 w Pr b size mC js ms us
 |[],ms,us,_,h,k=>by simp [n4] at h;subst h;cases k;exact .nil
 |v::l,ms,us,hl,h,k=>by
  simp only [n4,Option.bind_eq_some_iff,Option.map_eq_some_iff] at h
  obtain ⟨m,hm,r,hr,rfl⟩:=h
  simp only [List.any_cons,Bool.or_eq_false_iff] at hl
  cases k with
  |cons h1 hs=>
   have ih:=vA (b:=b) (size:=size) (mC:=mC) (js:=js) hl.2 hr hs
   cases v with
   |pv p=>simp only [rR,Option.some.injEq] at hm;subst hm;exact .p h1 ih
   |bs k off sz n=>simp [cw] at hl
   |cl f caps=>
    simp only [rR,Option.map_eq_some_iff] at hm
    obtain ⟨ps,hps,rfl⟩:=hm
    exact .p (Lu h1 hps) ih
   |_=>simp [rR] at hm
theorem ov {k sz:Nat} {cs:List PV} {c:Array Value} {T:TypeId} (hk:look st.bx k=some cs) (hb:w.heap[bk (.bx k)]? =some (.cells c T (0,0))):∀{gG:List AV} {ms:List MA} {us:List Value},fR gG=some (k,sz)→n4 st gG=some ms→nV st a w Pr bk gG us→
  m6 w Pr (bk (.bx k)) c.size cs sz ms us∧cZ ms=some cs
 |[],ms,us,hg,_,_=>by simp [fR] at hg
 |v::l,ms,us,hg,h,kk=>by
  simp only [n4,Option.bind_eq_some_iff,Option.map_eq_some_iff] at h
  obtain ⟨m,hm,r,hr,rfl⟩:=h
  cases kk with
  |cons h1 hs=>
   cases v with
   |bs j off sz' n=>
    simp only [fR] at hg
    split at hg
    · simp at hg
    · rename_i hl
      simp only [Option.some.injEq,Prod.mk.injEq] at hg
      obtain ⟨rfl,rfl⟩:=hg
      simp only [rR,Option.map_eq_some_iff] at hm
      obtain ⟨aK,hk2,rfl⟩:=hm
      rw [hk] at hk2;cases hk2
      obtain ⟨o,cap,qL,c3,T3,e1,e2,e3,e4,e5,e6,e7,e8⟩:=h1
      rw [hk] at e3;cases e3
      rw [hb] at e7;cases e7
      exact ⟨.g ⟨o,cap,e1,e2,e4,e5,e6,e8⟩ (vA (by simpa using hl) hr hs),rfl⟩
   |pv p=>
    simp only [fR] at hg
    split at hg
    · simp at hg
    · simp only [rR,Option.some.injEq] at hm;subst hm
      obtain ⟨i1,i2⟩:=ov hk hb hg hr hs
      exact ⟨.p h1 i1,i2⟩
   |cl f caps=>
    simp only [fR] at hg
    split at hg
    · simp at hg
    · simp only [rR,Option.map_eq_some_iff] at hm
      obtain ⟨ps,hps,rfl⟩:=hm
      obtain ⟨i1,i2⟩:=ov hk hb hg hr hs
      exact ⟨.p (Lu h1 hps) i1,i2⟩
   |_=>simp [rR] at hm
theorem tA {k sz:Nat}:∀{gG:List AV},fR gG=some (k,sz)→∃off n,AV.bs k off sz n∈gG
 |[],h=>by simp [fR] at h
 |v::l,h=>by
  cases v with
  |bs j off sz' n=>
   simp only [fR] at h
   split at h
   · simp at h
   · simp only [Option.some.injEq,Prod.mk.injEq] at h
     obtain ⟨rfl,rfl⟩:=h
     exact ⟨off,n,by simp⟩
  |_=>
   simp only [fR] at h
   split at h
   · simp at h
   · obtain ⟨off,n,hm⟩:=tA h
     exact ⟨off,n,List.mem_cons_of_mem _ hm⟩
theorem xC:∀{gG:List AV} {us:List Value},nV st a w Pr bk gG us→∀av∈gG,∃t v,dQ st a w Pr bk t av v
 |_,_, .nil,av,h=>by simp at h
 |_,_, .cons h1 hs,av,h=>by
  rcases List.mem_cons.1 h with rfl|h
  · exact ⟨_,_,h1⟩
  · exact xC hs av h
theorem J7 {call:Cl} (hC:aP P call) (I:Inv base w Pr bk st a N) {o:Oper} {f:Nat} {gG:List AV} {st':St} (hN:∀d,o.dst=some d→d<N) (hc:iL st o=some (f,gG)) (h:sS call o st f gG=some st'):jM P base w Pr bk st a N o st':=by
 simp only [sS,Option.bind_eq_some_iff] at h
 obtain ⟨⟨k,sz⟩,hg,ms,Mu,⟨r,cs'⟩,hr,h⟩:=h
 split at h
 · rename_i hok
   simp only [Option.some.injEq] at h
   obtain ⟨us,he,cU⟩:=Bn I hc
   obtain ⟨off,n,hmem⟩:=tA hg
   obtain ⟨t0,v0,ki⟩:=xC cU _ hmem
   obtain ⟨_,_,cs,c0,T0,_,_,hk,_,_,_,hb0,_⟩:=ki
   obtain ⟨⟨T,c,vs,hb,hpre,hrl,hone⟩,hfree⟩:=I.boxes k cs hk
   obtain ⟨hma,xN⟩:=ov hk hb hg Mu cU
   obtain ⟨hbody,eo⟩:=hC.mu f ms r cs' hr
   intro K Q hK
   refine nS he hbody (eo cs sz us w Pr (bk (.bx k)) T c xN I.bP ⟨hb,⟨vs,hpre,hrl,hone⟩,hfree⟩ hma) ?_
   rintro e w' ⟨v,rfl,hm⟩
   refine ⟨v,rfl, ?_⟩
   obtain ⟨c',zW,hcs⟩:=hm.OW
   obtain ⟨us',hp',hr',ho'⟩:=zW.pre
   obtain ⟨I2,iO,hkp,gq⟩:=I.dh hk hm.len hm.os hm.tape hm.output hm.size hm.other hb zW.qI hcs hp' hr' ho'
   have WM:look (st.dh k cs').bx k=some cs':=by simp [St.dh,look]
   have Fj:∀{off n u},BI (bk (.bx k)) c.size cs' off sz n u→fZ (st.dh k cs') w' bk k off sz n u:=fun {off n u} h=>by
    obtain ⟨o',cap,e1,e2,e3,e4,e5,e6⟩:=h
    exact ⟨o',cap,cs',c',T,e1,e2,WM,e3,e4,e5,zW.qI,by omega⟩
   have u6:∀t,dQ (st.dh k cs') a w' Pr bk t (xp k sz r) v:=fun t=>by
    have:=hm.res
    cases r with
    |pv p=>exact this
    |gs off n=>exact Fj this
    |gt off n rest=>obtain ⟨u,us,e1,e2,e3⟩:=this;exact ⟨u,us,e1,Fj e2,e3⟩
   have hne:∀sz' n cs,xp k sz r≠ .ex sz' n cs:=by intro _ _ _;cases r<;>simp [xp]
   cases hd:o.dst with
   |none=>
    rw [hd] at h
    rw [←h] at hK
    exact hK a w' Pr bk I2 iO hkp (fun _ _ _ h=>h) gq (fun _ _=>rfl) rfl
   |some d=>
    rw [hd] at h
    rw [gj] at h
    have hmo:dD base w' Pr bk (st.dh k cs') a { v:=xp k sz r} v:=⟨fun _=>u6,fun _ _ _ h=>absurd h (hne _ _ _),fun z h=>by simp at h,fun q h=>by simp at h⟩
    obtain ⟨aS,hI,hbk⟩:=I2.je (hN d hd) hmo
    rw [←h] at hK
    exact hK _ w' Pr aS hI iO hkp (fun _ _ _ h=>h) gq (fun j _=>hbk j) rfl
 · simp at h
theorem nu:∀{cs:List PV} {vs:List Value} {w:World} {Pr:aD},cs.all bS=true→aT w Pr cs vs→∀{w2:World} {lN:aD},aT w2 lN cs vs
 |_,_,_,_,_, .nil,_,_=> .nil
 |_,_,_,_,h, .cons h1 hs,_,_=>by
  simp only [List.all_cons,Bool.and_eq_true] at h
  refine .cons ?_ (nu h.2 hs)
  cases h1 with
  |lit hsc=>exact .lit hsc
  |_=>simp [bS] at h
theorem nJ {b:Nat} {c:Array Value} {T:TypeId} {vs:List Value} (h:w.heap[b]? =some (.cells c T (0,0))) (hr:w.rangeAt b 0 vs):vs<+:c.toList:=by
 refine ⟨c.toList.drop vs.length, ?_⟩
 have key:c.toList.take vs.length=vs:=by
  apply List.ext_getElem?
  intro i
  by_cases hi:i<vs.length
  · rw [List.getElem?_take_of_lt hi,Array.getElem?_toList]
    have:=hr i _ (List.getElem?_eq_getElem hi)
    rw [cell_of_row _ _ _ _ _ _ h,Nat.zero_add] at this
    rw [this,List.getElem?_eq_getElem hi]
  · rw [List.getElem?_take,if_neg hi,List.getElem?_eq_none (by omega)]
 calc vs++c.toList.drop vs.length=c.toList.take vs.length++c.toList.drop vs.length:=by rw [key]
  _=c.toList:=List.take_append_drop ..
theorem LD {call:Cl} (hC:aP P call) (I:Inv base w Pr bk st a N) {o:Oper} {st':St} (hN:∀d,o.dst=some d→d<N) (h:uV call o st=some st'):jM P base w Pr bk st a N o st':=by
 unfold uV at h
 split at h
 · rename_i g args ts ho
   split at h
   · rename_i f caps hg
     split at h
     · simp at h
     · rename_i hout
       simp only [Option.bind_eq_some_iff] at h
       obtain ⟨gp,has,r,hr,d,hd,h⟩:=h
       split at h
       · rename_i sz n cs z hv hz
         split at h
         · rename_i g9
           obtain ⟨rfl,zX⟩:=g9
           obtain ⟨hbody,eo⟩:=hC.fn f _ r hr
           have tE:=ei I hg
           generalize hge:a.eval g=gv at tE
           cases tE with
           |fn hcs=>
            have hargs:=(j8 I (by simpa using hout) has).app hcs
            intro K Q hK
            refine nS (lX ho hge) hbody (eo _ w Pr I.bP hargs) ?_
            rintro e w' ⟨v,aC,rfl,eP⟩
            refine ⟨v,rfl, ?_⟩
            obtain ⟨b,o',n',cap,aK,e1,e2,hroom,e3,e4,e5⟩:=eP.gr z hz
            rw [hv] at e1
            simp only [PV.sl.injEq,true_and] at e1
            obtain ⟨rfl,rfl⟩:=e1
            subst e3
            obtain ⟨qW,u5⟩:∃qW:aD,∀b' o,qW b' o↔(aC b' o∧b'≠b):=⟨fun b' o=>_,fun _ _=>Iff.rfl⟩
            have hf:Fw w Pr w' qW:=⟨eP.fw.gX,fun b' o h=>(u5 b' o).2 ⟨eP.fw.pr b' o h,fun e=>by have:=I.bP b' o h;omega⟩,fun b' o hlt h=>eP.fw.old b' o hlt ((u5 b' o).1 h).1,fun b' o h=>eP.fw.new b' o ((u5 b' o).1 h).1⟩
            obtain ⟨c,T,hb,hsz⟩:=hroom.there
            obtain ⟨vs,hrl,hone,hpre,hlen⟩:∃vs,aT w' qW cs vs∧One vs∧vs<+:c.toList∧cs.length=n* z:=by
             have cU:=eP.rp
             rw [hv,e2] at cU
             cases cU with
             |sl kq h1 hl hn hc hp=>exact ⟨_,nu zX kq,h1,nJ hb hc,hl⟩
            obtain ⟨aS,hI,_,hbk⟩:=(I.fw hf).dB (uJ:= .bs d 0 z n) (v0:=v) (hN d hd) hb hpre (Nat.le_trans I.hb e4) (fun x hx e=>by have:=(I.own x hx).2;omega) (fun o h=>((u5 b o).1 h).2 rfl) hrl hone rfl (by simp)
             (fun kT a2 gH t h1 h2=>⟨0,cap,_,c,T,by rw [h2];exact e2, .inl rfl,h1,by omega,hroom.hz,hroom.le,by rw [h2];exact hb,hsz⟩) h
            rw [hd]
            exact hK _ w' qW aS hI (hf.gX.mono I.hb) (hf.kp I.bP) (fun b o hb h=>hf.old b o (Nat.lt_of_lt_of_le hb I.hb) h) hf.ko (fun k hk=>hbk k (fun e=>hk (by rw [hd,e]))) rfl
         · simp at h
       · simp at h
   · simp at h
 · simp at h
end
end Go.Proofs.YtibbgjafjhcemaaDoor.Cul
namespace Go.Proofs.YtibbgjafjhcemaaDoor.Cul
open Go Go.RowKit
structure eM where
 k:Nat→Option Nat
 ds:Option (List Deferred)
section
variable {P:Program} {base:Nat} {w:World} {Pr:aD} {bk:Key→Nat} {st:St} {a:Act} {N:Nat} {bf:eM}
theorem EU (I:Inv base w Pr bk st a N) {o:Oper} {st':St} (hN:∀d,o.dst=some d→d<N) (h:effect P o st=some st'):jM P base w Pr bk st a N o st':=by
 cases ho:o.op with
 |assign x=>exact Dp I ho hN h
 |alloc t=>exact EV I ho hN h
 |box t x=>exact J6 I ho hN h
 |store t x y=>exact EY I ho h
 |makeSlice t l c=>exact yE I ho hN h
 |call c=>
  obtain ⟨callee,args,ts⟩:=c
  cases callee with
  |value g=>simp [effect,ho] at h
  |builtin b=>
   cases b with
   |append=>exact Dn I ho hN h
   |_=>simp [effect,ho] at h
  |invoke r n=>simp [effect,ho] at h
 |_=>simp [effect,ho] at h
theorem EX (I:Inv base w Pr bk st a N) {o:Oper} {m:Made} (hN:∀d,o.dst=some d→d<N) (h:ic P base w Pr bk st a o m):jM P base w Pr bk st a N o (st.made o.dst m):=by
 intro K Q hK
 refine h K Q fun v w' aC hf hm=> ?_
 have I2:=I.fw hf
 cases hd:o.dst with
 |none=>exact hK a w' aC bk (by rw [hd];exact I2) (hf.gX.mono I.hb) (hf.kp I.bP) (fun b o hb h=>hf.old b o (Nat.lt_of_lt_of_le hb I.hb) h) hf.ko (fun _ _=>rfl) rfl
 |some d=>
  obtain ⟨aS,hI,hbk⟩:=I2.je (hN d hd) hm
  exact hK _ w' aC aS (by rw [hd];exact hI) (hf.gX.mono I.hb) (hf.kp I.bP) (fun b o hb h=>hf.old b o (Nat.lt_of_lt_of_le hb I.hb) h) hf.ko (fun k _=>hbk k) rfl
theorem uH {call:Cl} (hC:aP P call) (I:Inv base w Pr bk st a N) {o:Oper} {st':St} (hN:∀d,o.dst=some d→d<N) (h:iK P call o st=some st'):jM P base w Pr bk st a N o st':=by
 have plain:(if gO o.op=true then (quiet P call o st).map (st.made o.dst) else effect P o st)=some st'→jM P base w Pr bk st a N o st':=fun h=>by
  split at h
  · simp only [Option.map_eq_some_iff] at h
    obtain ⟨m,hm,rfl⟩:=h
    exact EX I hN (AQ hC I hm)
  · exact EU I hN h
 unfold iK at h
 split at h
 · rename_i f vs hc
   split at h
   · exact J7 hC I hN hc h
   · split at h
     · exact LD hC I hN h
     · exact plain h
 · exact plain h
structure mq (F:Fence):Prop where
 fn:∀f,F.fn f
 depth:F.depth=none
 calls:∀(n:Nat) (P:Program) (f:FuncId) (args:Array Value) (w:World) (R:Ending→World→Prop),Calls P f args w R→CallsIn F n P f args w R
 rows:∀(n:Nat) (P:Program) (row:String) (args:Array Value) (w:World) (R:Value→World→Prop),Rows P row args w R→RowsIn F n P row args w R
theorem o8 {n:Nat} {row:String} {args:Array Value} {R:Value→World→Prop} (h:Rows P row args w R):RowsIn Fence.wide n P row args w R:=
 fun c cs _=>let ⟨v,w',r,s⟩:=h c cs;⟨v,w',r,stepsIn_wide.2 s⟩
theorem lV:mq Fence.wide:=⟨fun _=>trivial,rfl,fun _ _ _ _ _ _ h=>callsIn_wide.2 h,fun _ _ _ _ _ _ h=>o8 h⟩
theorem uP (l:Nat):mq (Fence.wide.inRound l):=⟨fun _=>trivial,rfl,fun _ _ _ _ _ _ h=>CallsIn.inRound l (callsIn_wide.2 h),fun _ _ _ _ _ _ h=>o8 h⟩
theorem oZ {F:Fence} (E:mq F) {n:Nat} {o:Oper} (ve:∀c,o.op≠ .defer c) {K:Act→World→Prop} {Q:Exit→Act→World→Prop} (h:o.wp P a w K Q):o.wpIn F n P a w K Q:=by
 refine ⟨fun f _=>E.fn f, ?_⟩
 rw [Oper.semAt_plain F _ _ ve]
 unfold Oper.wp at h
 generalize (execOp a.eval o).run P w=r at h
 have hd:F.depth.isSome=true→1≤n:=fun h=>by rw [E.depth] at h;simp at h
 cases r with
 |ok x w'=>
  cases x with
  |value v=>exact h
  |skip=>exact h
  |defer d=>exact h
  |enter f args=>exact ⟨hd,E.calls _ _ _ _ _ _ h⟩
  |row r args=>exact ⟨hd,E.rows _ _ _ _ _ _ h⟩
  |_=>exact h.elim
 |halt x w'=>cases x<;>first|exact h|exact h.elim
theorem j6 {call:Cl} {o:Oper} {s:St} (h:iK P call o st=some s):∀c,o.op≠ .defer c:=by
 intro c ho
 simp [iK,iL,ho,gO,effect] at h
def Good (base:Nat) (w0:World) (bg:aD) (N:Nat) (bf:eM) (st:St) (a:Act) (w:World):Prop:=
 ∃Pr bk,Inv base w Pr bk st a N∧Below base w0 w∧(∀b o,b<base→Pr b o→bg b o)∧KO w0 w∧(∀k b,bf.k k=some b→bk (.bx k)=b)∧(∀b o v,bg b o→w0.cell? ⟨b,o,none⟩=some v→Pr b o∧w.cell? ⟨b,o,none⟩=some v)∧∀ds,bf.ds=some ds→a.defers=ds
theorem Good.step {w0:World} {bg:aD} {st':St} (hG:Below base w0 w∧(∀b o,b<base→Pr b o→bg b o)∧KO w0 w∧(∀k b,bf.k k=some b→bk (.bx k)=b)∧(∀b o v,bg b o→w0.cell? ⟨b,o,none⟩=some v→Pr b o∧w.cell? ⟨b,o,none⟩=some v)∧∀ds,bf.ds=some ds→a.defers=ds) {o:Oper} (fo:∀d,o.dst=some d→bf.k d=none) (h:jM P base w Pr bk st a N o st') {Q:Exit→Act→World→Prop} {K:Act→World→Prop}
  (hK:∀a' w',Good base w0 bg N bf st' a' w'→K a' w'):o.wp P a w K Q:=
 h K Q fun a' w' aC aS hI hb hk hp ho hbk hdf=>hK a' w' ⟨aC,aS,hI,hG.1.trans hb,fun b o hlt h=>hG.2.1 b o hlt (hp b o hlt h),hG.2.2.1.trans ho,⟨fun k b e=>(hbk k (fun e2=>by rw [fo k e2] at e;simp at e)).trans (hG.2.2.2.1 k b e),fun b o v h1 h2=>by
   obtain ⟨h3,h4⟩:=hG.2.2.2.2.1 b o v h1 h2
   exact ⟨hk.pr b o h3,(hk.cell b o h3).trans h4⟩,fun ds e=>hdf.trans (hG.2.2.2.2.2 ds e)⟩⟩
theorem Good.less {w0:World} {bg:aD} {st':St} (h:Good base w0 bg N bf st a w) (k:∀Pr bk,Inv base w Pr bk st a N→Inv base w Pr bk st' a N):Good base w0 bg N bf st' a w:=by
 obtain ⟨Pr,bk,I,h1⟩:=h
 exact ⟨Pr,bk,k Pr bk I,h1⟩
theorem j5 (I:Inv base w Pr bk st a N) {ops:Array Oper} {o:Oper} {b:Bool} (h:eA ops.toList o st=some b):Region.wanted o (yielded ops a.tmps)=b:=by
 unfold eA at h
 unfold Region.wanted
 cases hg:o.guard with
 |none=>rw [hg] at h;simpa using h
 |some g=>
  obtain ⟨j,want⟩:=g
  simp only [hg,Option.bind_eq_some_iff] at h
  obtain ⟨t,⟨oj,hj,hd⟩,h⟩:=h
  have hj':ops[j]? =some oj:=by simpa using hj
  simp only [yielded,hj',Option.bind_some,hd]
  split at h
  · rename_i c hl
    obtain ⟨v,hv,hr⟩:=I.slots t _ hl
    cases hr
    simp only [hv]
    simp only [Option.some.injEq] at h
    subst h
    cases c<;>cases want<;>rfl
  · rename_i hl
    obtain ⟨v,hv,hr⟩:=I.slots t _ hl
    cases hr with
    |an hr=>
     simp only [hv]
     simp only [Option.some.injEq] at h
     subst h;rfl
  · simp at h
theorem xx (I:Inv base w Pr bk st a N) {o:Oper} (hN:∀d,o.dst=some d→d<N):∃aS,Inv base w Pr aS (st.put o.dst fL) (a.put o.dst undef) N∧∀k,aS (.bx k)=bk (.bx k):=by
 cases hd:o.dst with
 |none=>exact ⟨bk,I,fun _=>rfl⟩
 |some d=>
  rw [gj]
  exact I.je (hN d hd) (bD (Rp.an .nil))
theorem sF {F:Fence} (E:mq F) (n:Nat) {call:Cl} (hC:aP P call) {w0:World} {bg:aD} {ops:Array Oper} {Q:Exit→Act→World→Prop} {st':St} (hQ:∀a' w',Good base w0 bg N bf st' a' w'→Q .normal a' w'):
  ∀(l:List Oper) (st:St) (a:Act) (w:World),(∀o∈l,∀d,o.dst=some d→d<N∧bf.k d=none)→Good base w0 bg N bf st a w→og (iK P call) ops.toList l st=some st'→wpListIn F n P ops Q l a w
 |[],st,a,w,hN,hG,h=>by
  simp only [og,Option.some.injEq] at h;subst h
  exact hQ a w hG
 |o::l,st,a,w,hN,hG,h=>by
  obtain ⟨Pr,bk,I,gM⟩:=hG
  simp only [og,Option.bind_eq_some_iff] at h
  obtain ⟨b,hb,h⟩:=h
  have hw:=j5 (ops:=ops) I hb
  refine wpListIn_step fun K hK=> ?_
  cases b with
  |true=>
   simp only [Option.bind_eq_some_iff] at h
   obtain ⟨s1,hs1,h⟩:=h
   rw [if_pos hw]
   exact oZ E (j6 hs1) (Good.step gM (fun d hd=>(hN o (by simp) d hd).2) (uH hC I (fun d hd=>(hN o (by simp) d hd).1) hs1) fun a' w' V9=>hK a' w' (sF E n hC hQ l s1 a' w' (fun o' ho'=>hN o' (List.mem_cons_of_mem _ ho')) V9 h))
  |false=>
   simp only at h
   rw [if_neg (by rw [hw];simp)]
   obtain ⟨aS,I',hbk⟩:=xx I (fun d hd=>(hN o (by simp) d hd).1)
   exact ⟨fun f _=>E.fn f,hK _ _ (sF E n hC hQ l _ _ _ (fun o' ho'=>hN o' (List.mem_cons_of_mem _ ho')) ⟨Pr,aS,I',gM.1,gM.2.1,gM.2.2.1,fun k b e=>(hbk k).trans (gM.2.2.2.1 k b e),gM.2.2.2.2.1,fun ds e=>by
    have:=gM.2.2.2.2.2 ds e
    rw [←this];cases o.dst<;>rfl⟩ h)⟩
end
end Go.Proofs.YtibbgjafjhcemaaDoor.Cul
namespace Go.Proofs.YtibbgjafjhcemaaDoor.Cul
open Go Go.RowKit
section
variable {P:Program} {base:Nat} {w:World} {Pr:aD} {bk:Key→Nat} {st:St} {a:Act} {N:Nat} {bf:eM}
theorem Inv.LA (I:Inv base w Pr bk st a N) {t sz n:Nat} {cs:List PV} (heq:look st.sl t=some (.ex sz n cs)):
  Inv base w Pr bk { st with sl:=(bL st.sl t).map (dP t)} a N∧∀x,live { st with sl:=(bL st.sl t).map (dP t)} x→bk x≠bk (.sx t):=by
 have hlk:∀u,look (bL st.sl t) u=if u=t then none else look st.sl u:=bI st.sl t
 have zV:aQ st.gr (.s t)=none:=by
  cases e:aQ st.gr (.s t) with
  |none=>rfl
  |some z=>obtain ⟨o',n',cap',cs',h1,_⟩:=I.gL t z e;rw [heq] at h1;simp at h1
 constructor
 · refine I.less (fun u av h=> ?_) (fun k cs h=>h) (fun q z h=>⟨h, ?_⟩) (fun t q h=>h) (fun u x h hx=> ?_) (fun _ _ _ _ _ _ e=>e)
   · simp only at h
     rw [cg (dP t) (fun _ av=>if bC t av then .dead else av) (fun _=>rfl),hlk] at h
     by_cases e:u=t
     · simp [e] at h
     · rw [if_neg e] at h
       cases hq:look st.sl u with
       |none=>simp [hq] at h
       |some y=>
        simp only [hq,Option.map_some,Option.some.injEq] at h
        split at h
        · obtain ⟨v,hv,_⟩:=I.slots u y hq;exact .inr ⟨h.symm,v,hv⟩
        · exact .inl (by rw [h])
   · cases q with
     |s u=>
      simp only
      rw [cg (dP t) (fun _ av=>if bC t av then .dead else av) (fun _=>rfl),hlk]
      have e:u≠t:=fun e=>by subst e;rw [zV] at h;simp at h
      rw [if_neg e]
      obtain ⟨o',n',cap',cs',h1,_⟩:=I.gL u z h
      rw [h1];rfl
     |c k o=>rfl
   · simp only at h
     obtain ⟨sz',n',cs',hx⟩:=hx
     have FE:x≠t:=by
      intro e;subst e
      rcases h with h|⟨off,h⟩<;>
      · rw [cg (dP x) (fun _ av=>if bC x av then .dead else av) (fun _=>rfl)] at h
        cases hq:look (bL st.sl x) u with
        |none=>simp [hq] at h
        |some y=>simp only [hq,Option.map_some,Option.some.injEq] at h;split at h<;>simp_all [bC]
     refine ⟨sz',n',cs', ?_⟩
     simp only
     rw [cg (dP t) (fun _ av=>if bC t av then .dead else av) (fun _=>rfl),hlk,if_neg FE,hx];rfl
 · intro x hx e
   have Fv:live st x∧x≠ .sx t:=by
    cases x with
    |bx k=>exact ⟨hx,by simp⟩
    |cx k o=>exact ⟨hx,by simp⟩
    |sx u=>
     have Ab:u≠t:=by
      intro e2;subst e2
      rcases hx with ⟨_,_,_,hx⟩|⟨z,hx⟩
      · simp only at hx
        rw [cg (dP u) (fun _ av=>if bC u av then .dead else av) (fun _=>rfl),hlk,if_pos rfl] at hx;simp at hx
      · simp only at hx;rw [zV] at hx;simp at hx
     refine ⟨?_,by simpa using Ab⟩
     rcases hx with ⟨sz',n',cs',hx⟩|hx
     · simp only at hx
       rw [cg (dP t) (fun _ av=>if bC t av then .dead else av) (fun _=>rfl),hlk,if_neg Ab] at hx
       cases hq:look st.sl u with
       |none=>simp [hq] at hx
       |some y=>simp only [hq,Option.map_some,Option.some.injEq] at hx;split at hx<;>simp_all [live,ek]
     · exact .inr hx
   exact Fv.2 (I.inj x (.sx t) Fv.1 (.inl ⟨sz,n,cs,heq⟩) e)
theorem ql {a:Act} {t:Nat} {v:Value} (h:a.tmps[t]? =some v):a.put (some t) v=a:=by
 have:a.tmps.setIfInBounds t v=a.tmps:=by
  apply Array.ext_getElem?
  intro i
  by_cases e:t=i
  · subst e
    have hlt:t<a.tmps.size:=(Array.getElem?_eq_some_iff.1 h).1
    rw [Array.getElem?_setIfInBounds_self_of_lt hlt,h]
  · rw [Array.getElem?_setIfInBounds_ne e]
 simp [Act.put,this]
theorem xB (w:World) (g:Nat) (h:∃c T fz,w.heap[g]? =some (.cells c T fz)):Wr w w g:=⟨rfl,rfl,rfl,rfl,fun _ _=>rfl,h,fun c T fz e=>⟨c,e,rfl⟩⟩
theorem l7 (gr:List (Pl×Nat)) (p q:Pl):aQ (gr.filter (fun x=>x.1≠p)) q=if q=p then none else aQ gr q:=by
 have:=er (fun x=>decide (x≠p)) gr q
 simp only [ne_eq,decide_not,Bool.not_eq_eq_eq_not,Bool.not_true,decide_eq_false_iff_not,ite_not] at this ⊢
 exact this
theorem gP (st:St) (t k u:Nat):look (st.cP t k).sl u=if u=t then none else (look st.sl u).map fun av=>if eV k av then av else .dead:=by
 simp only [St.cP]
 rw [cg (Jj k) (fun _ av=>if eV k av then av else .dead) (fun _=>rfl),bI]
 split<;>rfl
theorem Inv.cP (I:Inv base w Pr bk st a N) {t k:Nat} (heq:∀sz n cs,look st.sl t≠some (.ex sz n cs)):Inv base w Pr bk (st.cP t k) a N:=by
 refine I.less (fun u av h=> ?_) (fun j cs h=> ?_) (fun p z h=> ?_) (fun u q h=> ?_) (fun u x h hx=> ?_) (fun u av j h hj cs e=> ?_)
 · rw [gP] at h
   split at h
   · simp at h
   · cases hq:look st.sl u with
     |none=>simp [hq] at h
     |some y=>
      simp only [hq,Option.map_some,Option.some.injEq] at h
      split at h
      · exact .inl (by rw [h])
      · obtain ⟨v,hv,_⟩:=I.slots u y hq;exact .inr ⟨h.symm,v,hv⟩
 · simp only [St.cP] at h
   rw [bI] at h
   split at h
   · simp at h
   · exact h
 · have h0:=h
   simp only [St.cP] at h
   rw [l7,fJ] at h
   split at h
   · simp at h
   · rename_i W0
     split at h
     · rename_i hnb
       refine ⟨h, ?_⟩
       cases p with
       |s u=>
        have Ab:u≠t:=fun e=>W0 (by rw [e])
        obtain ⟨o,m,cap,cs,e1,_⟩:=I.gL u z h
        show look (st.cP t k).sl u=look st.sl u
        rw [gP,if_neg Ab,e1];rfl
       |c j o=>
        have oT:j≠k:=by simpa [Pl.eZ] using hnb
        show look (bL st.bx k) j=look st.bx j
        rw [bI,if_neg oT]
     · simp at h
 · simp only [St.cP] at h
   rw [cg (mQ k) (fun _ x=>x.bind fun p=>if p.eZ k then some p else none) (fun _=>rfl),bI] at h
   split at h
   · simp at h
   · cases hm:look st.tg u with
     |none=>simp [hm] at h
     |some p=>
      simp only [hm,Option.map_some,Option.some.injEq,Option.bind_eq_some_iff] at h
      obtain ⟨p',rfl,h⟩:=h
      split at h
      · simp only [Option.some.injEq] at h;rw [h]
      · simp at h
 · obtain ⟨sz',n',cs',e⟩:=hx
   have FE:x≠t:=fun e2=>by subst e2;exact heq _ _ _ e
   exact ⟨sz',n',cs',by rw [gP,if_neg FE,e];rfl⟩
 · have oT:j≠k:=by
     rw [gP] at h
     split at h
     · simp at h
     · cases hq:look st.sl u with
       |none=>simp [hq] at h
       |some y=>
        simp only [hq,Option.map_some,Option.some.injEq] at h
        split at h
        · rename_i hnp
          subst h
          cases y<;>simp_all [oA,eV]
        · subst h;simp [oA] at hj
   show look (bL st.bx k) j=some cs
   rw [bI,if_neg oT];exact e
theorem Inv.freeze (g:Bool) (I:Inv base w Pr bk st a N) {t k off sz n:Nat} {cs:List PV} (heq:look st.sl t=some (.bs k off sz n)) (hk:look st.bx k=some cs):
  ∃aC aS,Inv base w aC aS ((st.cP t k).made (some t) { v:= .pv (.sl sz n ((cs.drop off).take (n* sz))),gr:=wW g off sz}) a N∧Kp w Pr w aC∧(∀b o,b<base→aC b o→Pr b o)∧∀k,aS (.bx k)=bk (.bx k):=by
 have I2:=I.cP (t:=t) (k:=k) (fun sz n cs e=>by rw [heq] at e;simp at e)
 obtain ⟨v,cy,o,cap,cs',c,T,h1,h0,hk',hle,hz,hn,hb,hsz⟩:=I.slots t _ heq
 rw [hk] at hk';cases hk'
 obtain ⟨⟨T2,c2,vs,cF,hpre,hrl,hone⟩,hfree⟩:=I.boxes k cs hk
 rw [hb] at cF;cases cF
 have hown:=I.own (.bx k) ⟨cs,hk⟩
 have Fz:t<N:=by rw [←I.size];exact (Array.getElem?_eq_some_iff.1 cy).1
 have hlen:=hrl.length
 have hnl:∀x,live (st.cP t k) x→bk x≠bk (.bx k):=by
  intro x hx e
  have hl:live st x∧x≠ .bx k:=by
   cases x with
   |bx j=>
    obtain ⟨aK,h⟩:=hx
    have h':look (bL st.bx k) j=some aK:=h
    rw [bI] at h'
    split at h'
    · simp at h'
    · rename_i hj;exact ⟨⟨aK,h'⟩,by simpa using hj⟩
   |sx u=>
    refine ⟨?_,by simp⟩
    rcases hx with ⟨sz',n',cs',h⟩|⟨z,h⟩
    · rw [gP] at h
      split at h
      · simp at h
      · cases hq:look st.sl u with
        |none=>simp [hq] at h
        |some y=>
         simp only [hq,Option.map_some,Option.some.injEq] at h
         split at h
         · subst h;exact .inl ⟨sz',n',cs',hq⟩
         · simp at h
    · simp only [St.cP] at h
      rw [l7,fJ] at h
      split at h
      · simp at h
      · split at h
        · exact .inr ⟨z,h⟩
        · simp at h
   |cx j o=>
    refine ⟨?_,by simp⟩
    obtain ⟨z,h⟩:=hx
    simp only [St.cP] at h
    rw [l7,fJ] at h
    split at h
    · simp at h
    · split at h
      · exact ⟨z,h⟩
      · simp at h
  exact hl.2 (I.inj x (.bx k) hl.1 ⟨cs,hk⟩ e)
 obtain ⟨aC,dS⟩:∃aC:aD,∀b' o',aC b' o'↔(Pr b' o'∨(b'=bk (.bx k)∧o≤o'∧o'<o+n* sz)):=⟨fun b' o'=>_,fun _ _=>Iff.rfl⟩
 have hK:Kp w Pr w aC:=⟨fun b o h=>(dS b o).2 (.inl h),fun _ _ _=>rfl⟩
 have I3:=I2.tj (xB w (bk (.bx k)) ⟨c,T,_,hb⟩) hown.2 hnl hK (fun b' o' h hne=>((dS b' o').1 h).resolve_right (fun h=>hne h.1))
 have hm:dD base w aC bk (st.cP t k) a { v:= .pv (.sl sz n ((cs.drop off).take (n* sz))),gr:=wW g off sz} v:=by
  refine ⟨fun _ _=> ?_,fun _ _ _ h=>by simp at h,fun z dx=> ?_,fun q h=>by simp at h⟩
  · rw [h1]
    show Rp w aC _ _
    by_cases hn0:n=0
    · subst hn0
      simpa using Rp.sl (w:=w) (Pr:=aC) (sz:=sz) (n:=0) (cap:=cap) (b:=bk (.bx k)) (o:=o) .nil (by simp) (by simp) (Nat.zero_le _) (fun j v hj=>by simp at hj) (fun i hi=>by simp at hi)
    · obtain rfl:o=off:=h0.resolve_right (fun h=>hn0 h.1)
      have iG:=iX (dj (g7 hb hpre) o) (n* sz)
      rw [Nat.zero_add] at iG
      exact .sl (aT.mono hK ((hrl.drop o).take (n* sz))) (fun v hv=>hone v (List.mem_of_mem_drop (List.mem_of_mem_take hv))) (by simp;omega) hn iG (fun i hi=>(dS _ _).2 (.inr ⟨rfl,by omega,by simp at hi;omega⟩))
  · cases g with
    |false=>simp [wW] at dx
    |true=>
    simp only [wW] at dx
    split at dx
    · rename_i hoff
      simp only [Option.some.injEq] at dx;subst dx
      have WW:o=0:=by rcases h0 with h0|⟨_,h0⟩<;>omega
      refine ⟨bk (.bx k),o,n,cap,_,rfl,h1,⟨hz,hn,⟨c,T,hb,hsz⟩,fun o' ho=> ?_⟩,WW,hown.1,hown.2,hnl⟩
      rcases (dS _ _).1 ho with ho|ho
      · exact absurd ho (hfree o')
      · omega
    · simp at dx
 obtain ⟨aS,I4,hbk⟩:=I3.je Fz hm
 rw [ql cy] at I4
 exact ⟨aC,aS,I4,hK,fun b o' hlt h=>((dS b o').1 h).resolve_right (fun h=>by omega),hbk⟩
theorem zw (I:Inv base w Pr bk st a N) {t k:Nat} {cs:List PV} (hk:look st.bx k=some cs):∀x,live (st.cP t k) x→bk x≠bk (.bx k):=by
 intro x hx e
 have hl:live st x∧x≠ .bx k:=by
  cases x with
  |bx j=>
   obtain ⟨aK,h⟩:=hx
   have h':look (bL st.bx k) j=some aK:=h
   rw [bI] at h'
   split at h'
   · simp at h'
   · rename_i hj;exact ⟨⟨aK,h'⟩,by simpa using hj⟩
  |sx u=>
   refine ⟨?_,by simp⟩
   rcases hx with ⟨sz',n',cs',h⟩|⟨z,h⟩
   · rw [gP] at h
     split at h
     · simp at h
     · cases hq:look st.sl u with
       |none=>simp [hq] at h
       |some y=>
        simp only [hq,Option.map_some,Option.some.injEq] at h
        split at h
        · subst h;exact .inl ⟨sz',n',cs',hq⟩
        · simp at h
   · simp only [St.cP] at h
     rw [l7,fJ] at h
     split at h
     · simp at h
     · split at h
       · exact .inr ⟨z,h⟩
       · simp at h
  |cx j o=>
   refine ⟨?_,by simp⟩
   obtain ⟨z,h⟩:=hx
   simp only [St.cP] at h
   rw [l7,fJ] at h
   split at h
   · simp at h
   · split at h
     · exact ⟨z,h⟩
     · simp at h
 exact hl.2 (I.inj x (.bx k) hl.1 ⟨cs,hk⟩ e)
theorem Inv.Ke (I:Inv base w Pr bk st a N) {t k off:Nat} {cs:List PV} (heq:look st.sl t=some (.bp k off)) (hk:look st.bx k=some cs):
  ∃aC aS,Inv base w aC aS ((st.cP t k).made (some t) { v:= .pv (.el (cs.drop off))}) a N∧Kp w Pr w aC∧(∀b o,b<base→aC b o→Pr b o)∧∀k,aS (.bx k)=bk (.bx k):=by
 have I2:=I.cP (t:=t) (k:=k) (fun sz n cs e=>by rw [heq] at e;simp at e)
 obtain ⟨v,cy,dY⟩:=I.slots t _ heq
 have nq:v= .pointer (some ⟨bk (.bx k),off,none⟩):=dY
 obtain ⟨⟨T,c,vs,hb,hpre,hrl,hone⟩,hfree⟩:=I.boxes k cs hk
 have hown:=I.own (.bx k) ⟨cs,hk⟩
 have Fz:t<N:=by rw [←I.size];exact (Array.getElem?_eq_some_iff.1 cy).1
 have hnl:=zw (t:=t) I hk
 obtain ⟨aC,dS⟩:∃aC:aD,∀b' o',aC b' o'↔(Pr b' o'∨b'=bk (.bx k)):=⟨fun b' o'=>_,fun _ _=>Iff.rfl⟩
 have hK:Kp w Pr w aC:=⟨fun b o h=>(dS b o).2 (.inl h),fun _ _ _=>rfl⟩
 have I3:=I2.tj (xB w (bk (.bx k)) ⟨c,T,_,hb⟩) hown.2 hnl hK (fun b' o' h hne=>((dS b' o').1 h).resolve_right (fun h=>hne h))
 have hm:dD base w aC bk (st.cP t k) a { v:= .pv (.el (cs.drop off))} v:=by
  refine bD ?_
  rw [nq]
  have iG:=dj (g7 hb hpre) off
  rw [Nat.zero_add] at iG
  exact .el ((aT.mono hK hrl).drop off) (fun u hu=>hone u (List.mem_of_mem_drop hu)) iG (fun i hi=>(dS _ _).2 (.inr rfl))
 obtain ⟨aS,I4,hbk⟩:=I3.je Fz hm
 rw [ql cy] at I4
 exact ⟨aC,aS,I4,hK,fun b o' hlt h=>((dS b o').1 h).resolve_right (fun h=>by omega),hbk⟩
theorem Inv.fY (g:Bool) (I:Inv base w Pr bk st a N) (t:Nat):∃aC aS,Inv base w aC aS (st.fY g t) a N∧Kp w Pr w aC∧(∀b o,b<base→aC b o→Pr b o)∧∀k,aS (.bx k)=bk (.bx k):=by
 unfold St.fY
 split
 · rename_i sz n cs heq
   obtain ⟨I2,hfree⟩:=I.LA heq
   obtain ⟨v,cy,o,cap,vs,h1,h2,h3,h4,h5,h6,h7⟩:=I.slots t _ heq
   have hown:=I.own (.sx t) (.inl ⟨sz,n,cs,heq⟩)
   have Fz:t<N:=by rw [←I.size];exact (Array.getElem?_eq_some_iff.1 cy).1
   have hlen:=h2.length
   obtain ⟨aC,dS⟩:∃aC:aD,∀b' o',aC b' o'↔(Pr b' o'∨(b'=bk (.sx t)∧o≤o'∧o'<o+n* sz)):=⟨fun b' o'=>_,fun _ _=>Iff.rfl⟩
   have hK:Kp w Pr w aC:=⟨fun b o h=>(dS b o).2 (.inl h),fun _ _ _=>rfl⟩
   have I3:=I2.tj (xB w (bk (.sx t)) (by obtain ⟨c,T,e,_⟩:=h6.there;exact ⟨c,T,_,e⟩)) hown.2 hfree hK (fun b' o' h hne=>((dS b' o').1 h).resolve_right (fun h=>hne h.1))
   have hm:dD base w aC bk { st with sl:=(bL st.sl t).map (dP t)} a { v:= .pv (.sl sz n cs)} v:=by
    refine bD ?_
    rw [h1]
    exact .sl (aT.mono hK h2) h3 h4 h6.le h5 (fun i hi=>(dS _ _).2 (.inr ⟨rfl,by omega,by omega⟩))
   obtain ⟨aS,I4,hbk⟩:=I3.je Fz hm
   rw [ql cy] at I4
   exact ⟨aC,aS,I4,hK,fun b o' hlt h=>((dS b o').1 h).resolve_right (fun h=>by omega),hbk⟩
 · rename_i k off sz n heq
   split
   · rename_i cs hk
     exact I.freeze g heq hk
   · exact ⟨Pr,bk,I,Kp.refl _ _,fun _ _ _ h=>h,fun _=>rfl⟩
 · rename_i k off heq
   split
   · rename_i cs hk
     exact I.Ke heq hk
   · exact ⟨Pr,bk,I,Kp.refl _ _,fun _ _ _ h=>h,fun _=>rfl⟩
 · exact ⟨Pr,bk,I,Kp.refl _ _,fun _ _ _ h=>h,fun _=>rfl⟩
theorem Good.fY (g:Bool) {w0:World} {bg:aD} (h:Good base w0 bg N bf st a w) (t:Nat):Good base w0 bg N bf (st.fY g t) a w:=by
 obtain ⟨Pr,bk,I,hb,hp,ho,fo,hkc,hdf⟩:=h
 obtain ⟨aC,aS,I',hk,hp',hbk⟩:=I.fY g t
 exact ⟨aC,aS,I',hb,fun b o hlt h=>hp b o hlt (hp' b o hlt h),ho,fun k b e=>(hbk k).trans (fo k b e),fun b o v h1 h2=>by
  obtain ⟨h3,h4⟩:=hkc b o v h1 h2
  exact ⟨hk.pr b o h3,h4⟩,hdf⟩
theorem Good.wv {w0:World} {bg:aD}:∀(l:List Nat) {st:St},Good base w0 bg N bf st a w→Good base w0 bg N bf (l.foldl St.sI st) a w
 |[],_,h=>h
 |t::l,_,h=>Good.wv l (h.fY false t)
theorem vq (l:List (Nat×AV)) (t:Nat):∀ks:List Nat,look (mJ l ks) t=(if ks.contains t then look l t else none).map fun av=>if isRef av then .dead else av
 |[]=>by simp [mJ,look]
 |k::ks=>by
  have ih:=vq l t ks
  simp only [mJ]
  by_cases e:k=t
  · subst e
    cases h:look l k with
    |none=>simp only [ih];split<;>simp_all
    |some v=>simp [look,JG]
  · have e2:((k::ks).contains t)=ks.contains t:=by
      have:(t==k)=false:=by simpa using fun h=>e h.symm
      rw [List.contains_cons,this,Bool.false_or]
    rw [e2]
    cases h:look l k with
    |none=>simp only [ih]
    |some v=>simp only [look];rw [if_neg e];exact ih
theorem vp (l:List (Nat×List PV)) (t:Nat):∀ks:List Nat,look (sP l ks) t=if ks.contains t then look l t else none
 |[]=>by simp [sP,look]
 |k::ks=>by
  have ih:=vp l t ks
  simp only [sP]
  by_cases e:k=t
  · subst e
    cases h:look l k with
    |none=>simp only [ih];split<;>simp_all
    |some v=>simp [look]
  · have e2:((k::ks).contains t)=ks.contains t:=by
      have:(t==k)=false:=by simpa using fun h=>e h.symm
      rw [List.contains_cons,this,Bool.false_or]
    rw [e2]
    cases h:look l k with
    |none=>simp only [ih]
    |some v=>simp only [look];rw [if_neg e];exact ih
theorem FR (l m:List (Pl×Nat)) (p:Pl):aQ (l++m) p=(aQ l p).or (aQ m p):=by
 induction l with
 |nil=>simp [aQ]
 |cons x l ih=>
  obtain ⟨k,v⟩:=x
  simp only [List.cons_append,aQ]
  split
  · simp
  · exact ih
theorem tH (l:List (Pl×Nat)) (p:Pl):∀ks:List Nat,aQ (vk l ks) p=if p.kept ks then aQ l p else none
 |[]=>by cases p<;>simp [vk,aQ,Pl.kept]
 |k::ks=>by
  have ih:=tH l p ks
  simp only [vk,FR,ih]
  rw [er (Pl.of k) l p]
  cases p with
  |s t=>
   by_cases e:t=k
   · subst e
     cases h:aQ l (.s t)<;>simp [Pl.of,Pl.kept]
   · have:(t==k)=false:=by simpa using e
     simp [Pl.of,Pl.kept,e]
  |c t o=>
   by_cases e:t=k
   · subst e
     cases h:aQ l (.c t o)<;>simp [Pl.of,Pl.kept]
   · have:(t==k)=false:=by simpa using e
     simp [Pl.of,Pl.kept,e]
theorem lI {ks:List Nat}:∀{l:List Nat} {k:Nat},k∈l→ks.contains k=false→k∈oX ks l
 |[],k,h,_=>by simp at h
 |a::l,k,h,hk=>by
  simp only [oX]
  split
  · rename_i hc
    rcases List.mem_cons.1 h with rfl|h
    · rw [hk,Bool.false_or] at hc
      exact lI (by simpa using hc) hk
    · exact lI h hk
  · rcases List.mem_cons.1 h with rfl|h
    · simp
    · exact List.mem_cons_of_mem _ (lI h hk)
theorem vR:∀{l:List (Nat×AV)} {t j:Nat} {av:AV},look l t=some av→j∈oA av→j∈refsOf l
 |[],t,j,av,h,_=>by simp [look] at h
 |(k,v)::l,t,j,av,h,hj=>by
  simp only [look] at h
  simp only [refsOf,List.mem_append]
  split at h
  · simp only [Option.some.injEq] at h;subst h;exact .inl hj
  · exact .inr (vR h hj)
theorem vl {st:St} {ks:List Nat} {k:Nat} (h:ks.contains k=true):(k7 st ks).contains k=true:=by
 simp only [k7,List.contains_eq_mem,List.mem_append,decide_eq_true_eq] at h ⊢
 exact .inl h
theorem Bt {st:St} {ks:List Nat} {t j:Nat} {av:AV} (h:look (st.cc ks).sl t=some av) (hj:j∈oA av):(k7 st ks).contains j=true:=by
 have h1:=vR (l:=mJ st.sl ks) h hj
 cases hc:ks.contains j with
 |true=>exact vl hc
 |false=>
  have:=lI (ks:=ks) (l:=refsOf (mJ st.sl ks)++(st.bx.map (·.1)).filter (fun k=>gk≤k)) (List.mem_append_left _ h1) hc
  simp only [k7,List.contains_eq_mem,List.mem_append,decide_eq_true_eq]
  exact .inr this
theorem Good.cc {w0:World} {bg:aD} (h:Good base w0 bg N bf st a w) (ks:List Nat):Good base w0 bg N bf (st.cc ks) a w:=by
 refine h.less fun Pr bk I=> ?_
 have hl:∀t,look (st.cc ks).sl t=(if ks.contains t then look st.sl t else none).map fun av=>if isRef av then .dead else av:=fun t=>vq st.sl t ks
 have hb:∀k,look (st.cc ks).bx k=if (k7 st ks).contains k then look st.bx k else none:=fun k=>vp st.bx k (k7 st ks)
 have hg:∀p,aQ (st.cc ks).gr p=if p.kept ks then aQ st.gr p else none:=fun p=>tH st.gr p ks
 refine I.less (fun t av ht=> ?_) (fun k cs hk=> ?_) (fun p z hz=> ?_) (fun t q ht=>by simp [St.cc,look] at ht) (fun t u ht _=> ?_) (fun t av j ht hj cs e=> ?_)
 · rw [hl] at ht
   split at ht
   · cases hq:look st.sl t with
     |none=>simp [hq] at ht
     |some x=>
      simp only [hq,Option.map_some,Option.some.injEq] at ht
      split at ht
      · obtain ⟨v,hv,_⟩:=I.slots t x hq;exact .inr ⟨ht.symm,v,hv⟩
      · exact .inl (by rw [ht])
   · simp at ht
 · rw [hb] at hk;split at hk
   · exact hk
   · simp at hk
 · rw [hg] at hz
   split at hz
   · rename_i hkp
     refine ⟨hz, ?_⟩
     cases p with
     |s t=>
      simp only [Pl.kept] at hkp
      obtain ⟨o,n,cap,cs,h1,_⟩:=I.gL t z hz
      show look (st.cc ks).sl t=look st.sl t
      rw [hl,if_pos hkp,h1];rfl
     |c k o=>
      simp only [Pl.kept] at hkp
      show look (st.cc ks).bx k=look st.bx k
      rw [hb,if_pos (vl hkp)]
   · simp at hz
 · exfalso
   rcases ht with ht|⟨off,ht⟩<;>
   · rw [hl] at ht
     split at ht
     · cases hq:look st.sl t with
       |none=>simp [hq] at ht
       |some x=>simp only [hq,Option.map_some,Option.some.injEq] at ht;split at ht<;>simp_all [isRef]
     · simp at ht
 · rw [hb,if_pos (Bt ht hj)];exact e
end
end Go.Proofs.YtibbgjafjhcemaaDoor.Cul
namespace Go.Proofs.YtibbgjafjhcemaaDoor.Cul
open Go Go.RowKit
structure oe (o:Oper) (st st':St):Prop where
 ev:∀x∈o.op.operands.toList,∀av,st.ev x=some av→(∀cs s,av≠ .cr cs s)→st'.ev x=some av
 ex:∀u sz n cs,look st.sl u=some (.ex sz n cs)→look st'.sl u=some (.ex sz n cs)
 bx:st'.bx=st.bx
 gr:st'.gr=st.gr
 tg:∀t,Operand.tmp t∈o.op.operands.toList→st'.tag t=st.tag t
section
variable {P:Program} {call:Cl} {o:Oper} {st st':St}
theorem F6 {x:Operand} (h:∀av,st.ev x=some av→(∀cs s,av≠ .cr cs s)→st'.ev x=some av) {p:PV} (hp:st.pv x=some p):st'.pv x=some p:=by
 have:=h _ (yN hp) (by simp)
 simp [St.pv,this]
theorem oe.pv (S:oe o st st') {x:Operand} (hx:x∈o.op.operands.toList) {p:PV} (hp:st.pv x=some p):st'.pv x=some p:=F6 (S.ev x hx) hp
theorem oe.val (S:oe o st st') {x:Operand} (hx:x∈o.op.operands.toList) {v:Value} (h:st.val x=some v):st'.val x=some v:=by
 simp only [St.val,Option.bind_eq_some_iff] at h ⊢
 obtain ⟨p,h1,h2⟩:=h
 exact ⟨p,S.pv hx h1,h2⟩
theorem oe.int (S:oe o st st') {x:Operand} (hx:x∈o.op.operands.toList) {n:Int} (h:(st.pv x).bind cz=some n):(st'.pv x).bind cz=some n:=by
 simp only [Option.bind_eq_some_iff] at h ⊢
 obtain ⟨p,h1,h2⟩:=h
 exact ⟨p,S.pv hx h1,h2⟩
theorem nI:∀(l:List (Nat×Operand)) (r:List (Nat×PV)),(∀x∈l.map (·.2),∀av,st.ev x=some av→(∀cs s,av≠ .cr cs s)→st'.ev x=some av)→partsOf st l=some r→partsOf st' l=some r
 |[],r,h,hp=>by simpa [partsOf] using hp
 |(i,x)::l,r,h,hp=>by
  simp only [partsOf,Option.bind_eq_some_iff] at hp ⊢
  obtain ⟨p,h1,h2⟩:=hp
  refine ⟨p,F6 (h x (by simp)) h1, ?_⟩
  split at h2
  · simp at h2
  · rename_i hn
    rw [if_neg hn]
    simp only [Option.map_eq_some_iff] at h2 ⊢
    obtain ⟨q,h3,h4⟩:=h2
    exact ⟨q,nI l q (fun y hy=>h y (by simp at hy ⊢;exact .inr hy)) h3,h4⟩
theorem q9 (h:st'.bx=st.bx):∀l,dX st' l=dX st l
 |[]=>rfl
 | .pv p::l=>by simp [dX,q9 h l]
 | .bp k off::l=>by simp [dX,q9 h l,h]
theorem ze (h:st'.bx=st.bx):∀av,st'.fj av=st.fj av
 | .pv p=>rfl
 | .bp k off=>by simp [St.fj,h]
 | .cl f caps=>by simp [St.fj,q9 h]
 | .ex .. =>rfl
 | .xr .. =>rfl
 | .xe .. =>rfl
 | .cr .. =>rfl
 | .dead=>rfl
 | .bs .. =>by simp [St.fj,h]
 | .mv .. =>rfl
 | .tg .. =>rfl
theorem oh (hb:st'.bx=st.bx):∀(l:List Operand) (r:List PV),(∀x∈l,∀av,st.ev x=some av→(∀cs s,av≠ .cr cs s)→st'.ev x=some av)→eH st l=some r→eH st' l=some r∧∀x∈l,st'.ev x=st.ev x
 |[],r,h,hp=>⟨by simpa [eH] using hp,by simp⟩
 |x::l,r,h,hp=>by
  simp only [eH,Option.bind_eq_some_iff,Option.map_eq_some_iff] at hp ⊢
  obtain ⟨p,⟨av,h0,h1⟩,q,h3,h4⟩:=hp
  have hx:=h x (by simp) av h0 (fun cs s e=>by subst e;simp [St.fj] at h1)
  obtain ⟨i1,i2⟩:=oh hb l q (fun y hy=>h y (by simp;exact .inr hy)) h3
  refine ⟨⟨p,⟨av,hx,by rw [ze hb];exact h1⟩,q,i1,h4⟩,fun y hy=> ?_⟩
  rcases List.mem_cons.1 hy with rfl|hy
  · rw [hx,h0]
  · exact i2 y hy
theorem nW:∀(l:List Operand) (r:List Cap),(∀x∈l,∀av,st.ev x=some av→(∀cs s,av≠ .cr cs s)→st'.ev x=some av)→eU st l=some r→eU st' l=some r
 |[],r,h,hp=>by simpa [eU] using hp
 |x::l,r,h,hp=>by
  simp only [eU] at hp ⊢
  have ih:=nW l
  split at hp
  · rename_i p heq
    rw [h x (by simp) _ heq (by simp)]
    simp only [Option.map_eq_some_iff] at hp ⊢
    obtain ⟨q,h3,h4⟩:=hp
    exact ⟨q,ih q (fun y hy=>h y (by simp;exact .inr hy)) h3,h4⟩
  · rename_i k off heq
    rw [h x (by simp) _ heq (by simp)]
    simp only [Option.map_eq_some_iff] at hp ⊢
    obtain ⟨q,h3,h4⟩:=hp
    exact ⟨q,ih q (fun y hy=>h y (by simp;exact .inr hy)) h3,h4⟩
  · simp at hp
theorem DW (S:oe o st st') {m:Made} (h:quiet P call o st=some m):quiet P call o st'=some m:=by
 cases ho:o.op with
 |move x=>
  have hx:x∈o.op.operands.toList:=by simp [ho,Op.operands]
  simp only [quiet,ho] at h ⊢
  have key:=S.ev x hx
  have MO:∀t,x= .tmp t→st'.tag t=st.tag t:=fun t e=>S.tg t (e ▸hx)
  cases he:st.ev x with
  |none=>rw [he] at h;cases x<;>simp at h
  |some av=>
   rw [he] at h
   cases av with
   |cr cs s=>cases x<;>simp at h
   |_=>
    rw [key _ he (by simp)]
    cases x with
    |tmp t=>simpa [S.gr,MO t rfl] using h
    |_=>exact h
 |pick c x y=>
  simp only [quiet,ho,Option.bind_eq_some_iff] at h ⊢
  obtain ⟨v,hc,h⟩:=h
  refine ⟨v,S.val (by simp [ho,Op.operands]) hc, ?_⟩
  split at h
  · rename_i b
    simp only [Option.map_eq_some_iff] at h ⊢
    obtain ⟨p,hp,h⟩:=h
    refine ⟨p,S.pv ?_ hp,h⟩
    cases b<;>simp [ho,Op.operands]
  · simp at h
 |binOp op t x y u=>
  simp only [quiet,ho,Option.bind_eq_some_iff] at h ⊢
  obtain ⟨v,hc,v2,gN,h⟩:=h
  exact ⟨v,S.val (by simp [ho,Op.operands]) hc,v2,S.val (by simp [ho,Op.operands]) gN,h⟩
 |unOp op t x=>
  simp only [quiet,ho,Option.bind_eq_some_iff] at h ⊢
  obtain ⟨v,hc,h⟩:=h
  exact ⟨v,S.val (by simp [ho,Op.operands]) hc,h⟩
 |convert s d x=>
  simp only [quiet,ho] at h ⊢
  cases hp:st.pv x with
  |none=>rw [hp] at h;simp at h
  |some p=>rw [hp] at h;rw [S.pv (by simp [ho,Op.operands]) hp];exact h
 |fieldAddr s x f=>
  simp only [quiet,ho,Option.bind_eq_some_iff] at h ⊢
  obtain ⟨v,hc,h⟩:=h
  refine ⟨v,hc, ?_⟩
  have key:=S.ev x (by simp [ho,Op.operands])
  split at h
  · rename_i he;rw [key _ he (by simp)];exact h
  · rename_i he;rw [key _ he (by simp)];exact h
  · rename_i he;rw [key _ he (by simp)];exact h
  · simp at h
 |field s x f=>
  simp only [quiet,ho,Option.bind_eq_some_iff] at h ⊢
  obtain ⟨v,hc,h⟩:=h
  refine ⟨v,hc, ?_⟩
  cases hp:st.pv x with
  |none=>rw [hp] at h;simp at h
  |some p=>rw [hp] at h;rw [S.pv (by simp [ho,Op.operands]) hp];exact h
 |indexAddr t x i=>
  simp only [quiet,ho] at h ⊢
  rw [Option.bind_eq_some_iff] at h ⊢
  obtain ⟨n,hn,h⟩:=h
  refine ⟨n,S.int (by simp [ho,Op.operands]) hn, ?_⟩
  have key:=S.ev x (by simp [ho,Op.operands])
  split at h
  · rw [Option.bind_eq_some_iff] at h ⊢
    obtain ⟨s,hs,h⟩:=h
    refine ⟨s,hs, ?_⟩
    split at h
    · rename_i hc;rw [if_pos hc]
      split at h
      · rename_i he;rw [key _ he (by simp)];exact h
      · rename_i he;rw [key _ he (by simp)];exact h
      · simp at h
    · simp at h
  · rw [Option.bind_eq_some_iff] at h ⊢
    obtain ⟨s,hs,h⟩:=h
    refine ⟨s,hs, ?_⟩
    split at h
    · rename_i he;rw [key _ he (by simp)];exact h
    · rename_i he;rw [key _ he (by simp)]
      simp only
      split at h
      · rename_i qO;rw [S.ex _ _ _ _ qO];exact h
      · simp at h
    · rename_i he;rw [key _ he (by simp)];exact h
    · simp at h
  · simp at h
 |index t x i=>
  simp only [quiet,ho] at h ⊢
  split at h
  · rename_i len e cs hu hp
    rw [hu,S.pv (by simp [ho,Op.operands]) hp]
    simp only
    rw [Option.bind_eq_some_iff] at h ⊢
    obtain ⟨n,hn,h⟩:=h
    exact ⟨n,S.int (by simp [ho,Op.operands]) hn,h⟩
  · rename_i hno
    simp only [Option.bind_eq_some_iff] at h
    obtain ⟨v,hc,v2,gN,h⟩:=h
    have hx:x∈o.op.operands.toList:=by simp [ho,Op.operands]
    have hi:i∈o.op.operands.toList:=by simp [ho,Op.operands]
    have e:st'.pv x=st.pv x:=by
     simp only [St.val,Option.bind_eq_some_iff] at hc
     obtain ⟨p,h1,h2⟩:=hc
     rw [h1,S.pv hx h1]
    rw [e]
    split
    · rename_i len e cs hu hp;exact absurd hp (hno len e cs hu)
    · simp only [Option.bind_eq_some_iff]
      exact ⟨v,S.val hx hc,v2,S.val hi gN,h⟩
 |load t x=>
  simp only [quiet,ho] at h ⊢
  have key:=S.ev x (by simp [ho,Op.operands])
  split at h
  · rename_i he;rw [key _ he (by simp)];simp only;rw [S.bx,S.gr];exact h
  · rename_i he;rw [key _ he (by simp)];exact h
  · rename_i he;rw [key _ he (by simp)]
    simp only
    split at h
    · rename_i qO;rw [S.ex _ _ _ _ qO];exact h
    · simp at h
  · simp at h
 |build t ps=>
  simp only [quiet,ho] at h ⊢
  split at h
  · rename_i z ps' hz hp
    rw [hz,nI (st':=st') _ _ (fun x hx=>S.ev x (by simpa [ho,Op.operands] using hx)) hp]
    exact h
  · simp at h
 |buildSlice t n ps=>
  simp only [quiet,ho] at h ⊢
  split at h
  · rw [Option.bind_eq_some_iff] at h ⊢
    obtain ⟨s,hs,h⟩:=h
    refine ⟨s,hs, ?_⟩
    rw [Option.bind_eq_some_iff] at h ⊢
    obtain ⟨z,hz,h⟩:=h
    refine ⟨z,hz, ?_⟩
    split at h
    · rename_i hc;rw [if_pos hc]
      rw [Option.bind_eq_some_iff] at h ⊢
      obtain ⟨q,hp,h⟩:=h
      exact ⟨q,nI (st':=st') _ _ (fun x hx=>S.ev x (by simpa [ho,Op.operands] using hx)) hp,h⟩
    · simp at h
  · simp at h
 |extract x i=>
  simp only [quiet,ho] at h ⊢
  have key:=S.ev x (by simp [ho,Op.operands])
  split at h
  · rename_i hp;rw [key _ hp (by simp)];exact h
  · rename_i hp;rw [key _ hp (by simp)];exact h
  · simp at h
 |slice t x lo hi mx=>
  simp only [quiet,ho] at h ⊢
  have hx:x∈o.op.operands.toList:=by simp [ho,Op.operands]
  have hlo:∀l,lo=some l→l∈o.op.operands.toList:=fun l e=>by subst e;simp [ho,Op.operands]
  have hhi:∀l,hi=some l→l∈o.op.operands.toList:=fun l e=>by subst e;simp [ho,Op.operands]
  have key:=S.ev x hx
  split at h
  · rename_i hp;rw [key _ hp (by simp)]
    simp only
    split at h
    · rename_i e hu
      split at h
      · rename_i hc;rw [if_pos hc]
        rw [Option.bind_eq_some_iff] at h ⊢
        obtain ⟨b,hb,h⟩:=h
        refine ⟨b, ?_, ?_⟩
        · cases hi with
          |none=>exact hb
          |some y=>exact S.int (hhi y rfl) hb
        · rw [Option.bind_eq_some_iff] at h ⊢
          obtain ⟨c,hc,h⟩:=h
          refine ⟨c, ?_,h⟩
          cases lo with
          |none=>exact hc
          |some y=>exact S.int (hlo y rfl) hc
      · simp at h
    · simp at h
  · rename_i hp;rw [key _ hp (by simp)]
    simp only
    split at h
    · rename_i e hu
      split at h
      · rename_i hc;rw [if_pos hc]
        rw [Option.bind_eq_some_iff] at h ⊢
        obtain ⟨b,hb,h⟩:=h
        refine ⟨b, ?_, ?_⟩
        · cases hi with
          |none=>exact hb
          |some y=>exact S.int (hhi y rfl) hb
        · rw [Option.bind_eq_some_iff] at h ⊢
          obtain ⟨c,hc,h⟩:=h
          refine ⟨c, ?_,h⟩
          cases lo with
          |none=>exact hc
          |some y=>exact S.int (hlo y rfl) hc
      · simp at h
    · simp at h
  · rename_i p hno hp
    rw [key _ hp (by simp)]
    cases p with
    |sl sz n cs=>exact absurd rfl (hno sz n cs)
    |_=>
     simp only at h ⊢
     rw [Option.bind_eq_some_iff] at h ⊢
     obtain ⟨b,hb,h⟩:=h
     refine ⟨b,hb, ?_⟩
     cases mx with
     |some z=>cases lo<;>cases hi<;>simp at h
     |none=>
      cases lo with
      |none=>
       cases hi with
       |none=>exact h
       |some y=>
        simp only [Option.bind_eq_some_iff] at h ⊢
        obtain ⟨v,hv,h⟩:=h
        exact ⟨v,S.val (hhi y rfl) hv,h⟩
      |some l=>
       cases hi with
       |none=>
        simp only [Option.bind_eq_some_iff] at h ⊢
        obtain ⟨v,hv,h⟩:=h
        exact ⟨v,S.val (hlo l rfl) hv,h⟩
       |some y=>
        simp only [Option.bind_eq_some_iff] at h ⊢
        obtain ⟨v,hv,v2,dY,h⟩:=h
        exact ⟨v,S.val (hlo l rfl) hv,v2,S.val (hhi y rfl) dY,h⟩
  · simp at h
 |makeFunc f fi ca=>
  cases f with
  |func f=>
   simp only [quiet,ho] at h ⊢
   split at h
   · simp only [Option.map_eq_some_iff] at h ⊢
     obtain ⟨q,hp,h⟩:=h
     exact ⟨q,nW (st':=st') _ _ (fun x hx=>S.ev x (by simp [ho,Op.operands];exact .inr (by simpa using hx))) hp,h⟩
   · rename_i x WA B0
     have key:=S.ev x (by
      have:x∈fi.toList:=by rw [WA];simp
      simp [ho,Op.operands];exact .inl (by simpa using this))
     split at h
     · rename_i he;rw [key _ he (by simp)];exact h
     · simp at h
   · simp at h
  |_=>simp [quiet,ho] at h
 |nilCheck x=>
  simp only [quiet,ho] at h ⊢
  have key:=S.ev x (by simp [ho,Op.operands])
  split at h
  · rename_i he;rw [key _ he (by simp)];exact h
  · rename_i he;rw [key _ he (by simp)];exact h
  · rename_i he;rw [key _ he (by simp)];exact h
  · simp at h
 |call c=>
  obtain ⟨callee,args,ts⟩:=c
  cases callee with
  |value g=>
   simp only [quiet,ho] at h ⊢
   have key:=S.ev g (by simp [ho,Op.operands,Call.operands])
   split at h
   · rename_i v he
     simp only [Option.bind_eq_some_iff] at h
     obtain ⟨p,hp,h⟩:=h
     rw [key _ he (fun cs s e=>by subst e;simp [St.fj] at hp)]
     simp only [Option.bind_eq_some_iff]
     refine ⟨p,by rw [ze S.bx];exact hp, ?_⟩
     split at h
     · simp only [Option.bind_eq_some_iff] at h ⊢
       obtain ⟨q,hq,h⟩:=h
       obtain ⟨i1,i2⟩:=oh (st':=st') S.bx _ _ (fun x hx=>S.ev x (by simp [ho,Op.operands,Call.operands];exact .inr (by simpa using hx))) hq
       refine ⟨q,i1, ?_⟩
       have:(args.toList.any fun x=>((st'.ev x).map cw).getD true)=(args.toList.any fun x=>((st.ev x).map cw).getD true):=by
        rw [Bool.eq_iff_iff]
        simp only [List.any_eq_true]
        constructor
        · rintro ⟨x,hx,hh⟩;exact ⟨x,hx,by rw [←i2 x hx];exact hh⟩
        · rintro ⟨x,hx,hh⟩;exact ⟨x,hx,by rw [i2 x hx];exact hh⟩
       have e2:=this
       simp only [Array.any_toList] at e2
       simp only [Array.any_toList] at h ⊢
       rw [e2];exact h
     · simp at h
   · simp at h
  |builtin b=>
   cases b with
   |len=>
    simp only [quiet,ho] at h ⊢
    split at h
    · rename_i x hx
      have hm:x∈o.op.operands.toList:=by
       have:x∈args.toList:=by rw [hx];simp
       simp [ho,Op.operands,Call.operands];simpa using this
      have key:=S.ev x hm
      split at h
      · rename_i he;rw [key _ he (by simp)];exact h
      · rename_i he;rw [key _ he (by simp)]
        simp only
        split at h
        · rename_i qO hu;rw [S.ex _ _ _ _ qO,hu];exact h
        · simp at h
      · rename_i he;rw [key _ he (by simp)];exact h
      · rename_i p hno he;rw [key _ he (by simp)]
        cases p with
        |sl sz n cs=>exact absurd rfl (hno sz n cs)
        |_=>exact h
      · simp at h
    · simp at h
   |max=>
    simp only [quiet,ho] at h ⊢
    split at h
    · rename_i x y hx
      have hm:x∈args.toList∧y∈args.toList:=by rw [hx];simp
      simp only [Option.bind_eq_some_iff] at h ⊢
      obtain ⟨v,hv,v2,dY,h⟩:=h
      exact ⟨v,S.val (by simp [ho,Op.operands,Call.operands];simpa using hm.1) hv,v2,S.val (by simp [ho,Op.operands,Call.operands];simpa using hm.2) dY,h⟩
    · simp at h
   |min=>
    simp only [quiet,ho] at h ⊢
    split at h
    · rename_i x y hx
      have hm:x∈args.toList∧y∈args.toList:=by rw [hx];simp
      simp only [Option.bind_eq_some_iff] at h ⊢
      obtain ⟨v,hv,v2,dY,h⟩:=h
      exact ⟨v,S.val (by simp [ho,Op.operands,Call.operands];simpa using hm.1) hv,v2,S.val (by simp [ho,Op.operands,Call.operands];simpa using hm.2) dY,h⟩
    · simp at h
   |_=>simp [quiet,ho] at h
  |invoke r n=>simp [quiet,ho] at h
 |_=>simp [quiet,ho] at h
end
end Go.Proofs.YtibbgjafjhcemaaDoor.Cul
namespace Go.Proofs.YtibbgjafjhcemaaDoor.Cul
open Go Go.RowKit
section
variable {P:Program} {base:Nat} {w:World} {Pr:aD} {bk:Key→Nat} {st:St} {a:Act} {N:Nat}
theorem Inv.Ph (I:Inv base w Pr bk st a N) {OB:List (Nat×Option Pl)} (h:∀t q,look OB t=some (some q)→uf st q→look st.tg t=some (some q)):Inv base w Pr bk { st with tg:=OB} a N:=
 ⟨I.size,I.defers,I.hb,I.bP,fun t av ht=>(by
   obtain ⟨v,hv,hr⟩:=I.slots t av ht
   exact ⟨v,hv,by cases av<;>exact hr⟩),fun x hx=>I.own x (by cases x<;>exact hx),fun x y hx hy=>I.inj x y (by cases x<;>exact hx) (by cases y<;>exact hy),I.boxes,I.gL,I.iF,fun t q ht hq=>I.tags t q (h t q ht hq) hq⟩
theorem jU (st:St) (d:Nat) (m:Made) (t:Nat):look (st.gS (some d) m).sl t=if t=d then some m.v else look st.sl t:=by
 simp only [St.gS,look]
 by_cases h:t=d
 · simp [h]
 · rw [if_neg (Ne.symm h),bI,if_neg h,if_neg h]
theorem kC (st:St) (d:Nat) (m:Made) (t:Nat):look (st.gS (some d) m).tg t=if t=d then some m.tg else look st.tg t:=by
 simp only [St.gS,look]
 by_cases h:t=d
 · simp [h]
 · rw [if_neg (Ne.symm h),bI,if_neg h,if_neg h]
theorem tL {d t:Nat} {av:AV} {v:Value} (hr:bC d av=true) (h:dQ st a w Pr bk t av v):ek st d:=by
 cases av with
 |xr u=>simp only [bC,decide_eq_true_eq] at hr;subst hr;exact h.2
 |xe u off=>simp only [bC,decide_eq_true_eq] at hr;subst hr;exact h.2
 |_=>simp [bC] at hr
theorem Inv.gS (I:Inv base w Pr bk st a N) {d:Nat} (hd:d<N) (zT:aQ st.gr (.s d)=none) (xM:¬ek st d) {m:Made} {v:Value} (hm:dD base w Pr bk st a m v) (eT:m.gr=none) (hex:∀sz n cs,m.v≠ .ex sz n cs):
  ∃aS,Inv base w Pr aS (st.gS (some d) m) (a.put (some d) v) N∧(∀x,live (st.gS (some d) m) x→live st x∧aS x=bk x)∧∀k,aS (.bx k)=bk (.bx k):=by
 obtain ⟨aS,I1,hbk⟩:=I.made hd hm
 have WV:=hm.val hex d
 have DD:∀t av,(if t=d then some m.v else look st.sl t)=some av→bC d av=false:=by
  intro t av h
  cases e:bC d av with
  |false=>rfl
  |true=>
   exfalso
   split at h
   · simp only [Option.some.injEq] at h;subst h
     exact xM (tL e WV)
   · obtain ⟨u,_,hr⟩:=I.slots t av h
     exact xM (tL e hr)
 have nk:∀t,look (st.made (some d) m).sl t=look (st.gS (some d) m).sl t:=by
  intro t
  rw [jT,jU]
  cases e:(if t=d then some m.v else look st.sl t) with
  |none=>rfl
  |some av=>simp [DD t av e]
 have R9:∀p,aQ (st.made (some d) m).gr p=aQ (st.gS (some d) m).gr p:=by
  intro p
  rw [fU]
  show _=aQ st.gr p
  split
  · rename_i e;rw [e,zT,eT]
  · rfl
 have I2:=I1.Ph (OB:=(st.gS (some d) m).tg) (fun t q h hq=>by
  have W8:q≠ .s d:=by
   intro e;subst e
   obtain ⟨z,hz⟩:=hq
   rw [fU,if_pos rfl,eT] at hz;simp at hz
  rw [kC] at h
  rw [vo]
  split
  · rename_i e;rw [if_pos e] at h;simp only [Option.some.injEq] at h;rw [h];rfl
  · rename_i e;rw [if_neg e] at h;rw [h];simp [W8])
 have I3:Inv base w Pr aS (st.gS (some d) m) (a.put (some d) v) N:=by
  refine I2.less (fun t av h=> .inl ?_) (fun k cs h=>h) (fun p z h=>⟨?_, ?_⟩) (fun t q h=>h) (fun t u _ hx=> ?_) (fun _ _ _ _ _ _ e=>e)
  · show look (st.made (some d) m).sl t=some av
    rw [nk];exact h
  · show aQ (st.made (some d) m).gr p=some z
    rw [R9];exact h
  · cases p with
    |s t=>exact (nk t).symm
    |c k o=>rfl
  · obtain ⟨sz,n,cs,hx⟩:=hx
    exact ⟨sz,n,cs,(nk u).symm.trans hx⟩
 refine ⟨aS,I3,fun x hx=> ?_,fun k=>hbk _ (by simp)⟩
 have QT:x≠ .sx d∧live st x:=by
  cases x with
  |bx k=>exact ⟨by simp,hx⟩
  |cx k o=>exact ⟨by simp,hx⟩
  |sx t=>
   rcases hx with ⟨sz,n,cs,hx⟩|⟨z,hx⟩
   · rw [jU] at hx
     by_cases e:t=d
     · rw [if_pos e] at hx;exact absurd (Option.some.inj hx) (hex sz n cs)
     · rw [if_neg e] at hx;exact ⟨by simpa using e, .inl ⟨sz,n,cs,hx⟩⟩
   · by_cases e:t=d
     · subst e;exact absurd (show aQ st.gr (.s t)=some z from hx) (by rw [zT];simp)
     · exact ⟨by simpa using e, .inr ⟨z,hx⟩⟩
 exact ⟨QT.2,hbk x QT.1⟩
def gh:AV→AV
 | .cr _ _=> .dead
 |v=>v
structure Told (P:Program) (call:Cl) (ops:List Oper) (st:St) (n:Nat) (bJ:Nat→Nat) (ms:Nat→Made) (sT:Nat→St):Prop where
 dst:∀i,i<n→∃o,ops[i]? =some o∧o.dst=some (bJ i)
 step:∀i,i<n→∀o,ops[i]? =some o→∃b,eA ops o (sT i)=some b∧(b=true→fq P call o (sT i)=some (ms i))∧(b=false→ms i={ v:=fL})
 done:∀i,i≤n→∀j,j<i→look (sT i).sl (bJ j)=some (ms j).v∧look (sT i).tg (bJ j)=some (ms j).tg
 rest:∀i,i≤n→∀t,(∀j,j<i→bJ j≠t)→look (sT i).sl t=look st.sl t∧look (sT i).tg t=look st.tg t
 bx:∀i,i≤n→(sT i).bx=st.bx∧(sT i).gr=st.gr
theorem told {call:Cl} {ops:List Oper} {s:St} {bJ:Nat→Nat}:∀(l:List Oper) (st:St),(∀i o,l[i]? =some o→o.dst=some (bJ i))→(∀i j,i<l.length→j<l.length→bJ i=bJ j→i=j)→
  j7 P call ops l st=some s→∃(ms:Nat→Made) (sT:Nat→St),sT l.length=s∧sT 0=st∧
   (∀i,i<l.length→∀o,l[i]? =some o→∃b,eA ops o (sT i)=some b∧(b=true→fq P call o (sT i)=some (ms i))∧(b=false→ms i={ v:=fL}))∧
   (∀i,i≤l.length→∀j,j<i→look (sT i).sl (bJ j)=some (ms j).v∧look (sT i).tg (bJ j)=some (ms j).tg)∧
   (∀i,i≤l.length→∀t,(∀j,j<i→bJ j≠t)→look (sT i).sl t=look st.sl t∧look (sT i).tg t=look st.tg t)∧
   (∀i,i≤l.length→(sT i).bx=st.bx∧(sT i).gr=st.gr):=by
 intro l
 suffices H:∀(l:List Oper) (pre:List Oper) (pF st:St) (ms:Nat→Made) (sT:Nat→St),(∀i o,(pre++l)[i]? =some o→o.dst=some (bJ i))→(∀i j,i<(pre++l).length→j<(pre++l).length→bJ i=bJ j→i=j)→
   sT pre.length=st→sT 0=pF→
   (∀i,i<pre.length→∀o,pre[i]? =some o→∃b,eA ops o (sT i)=some b∧(b=true→fq P call o (sT i)=some (ms i))∧(b=false→ms i={ v:=fL}))→
   (∀i,i≤pre.length→∀j,j<i→look (sT i).sl (bJ j)=some (ms j).v∧look (sT i).tg (bJ j)=some (ms j).tg)→
   (∀i,i≤pre.length→∀t,(∀j,j<i→bJ j≠t)→look (sT i).sl t=look pF.sl t∧look (sT i).tg t=look pF.tg t)→
   (∀i,i≤pre.length→(sT i).bx=pF.bx∧(sT i).gr=pF.gr)→j7 P call ops l st=some s→
   ∃(ms:Nat→Made) (sT:Nat→St),sT (pre++l).length=s∧sT 0=pF∧
   (∀i,i<(pre++l).length→∀o,(pre++l)[i]? =some o→∃b,eA ops o (sT i)=some b∧(b=true→fq P call o (sT i)=some (ms i))∧(b=false→ms i={ v:=fL}))∧
   (∀i,i≤(pre++l).length→∀j,j<i→look (sT i).sl (bJ j)=some (ms j).v∧look (sT i).tg (bJ j)=some (ms j).tg)∧
   (∀i,i≤(pre++l).length→∀t,(∀j,j<i→bJ j≠t)→look (sT i).sl t=look pF.sl t∧look (sT i).tg t=look pF.tg t)∧
   (∀i,i≤(pre++l).length→(sT i).bx=pF.bx∧(sT i).gr=pF.gr) by
  intro st h1 h2 h
  have:=H l [] st st (fun _=>{ v:= .dead}) (fun _=>st) (by simpa using h1) (by simpa using h2) rfl rfl (by simp) (fun i hi j hj=>by simp at hi;omega) (fun i hi t _=>⟨rfl,rfl⟩) (fun _ _=>⟨rfl,rfl⟩) h
  simpa using this
 clear l
 intro l
 induction l with
 |nil=>
  intro pre pF st ms sT h1 h2 e1 e2 p1 p2 p3 p4 h
  simp only [j7,Option.some.injEq] at h
  subst h
  simp only [List.append_nil]
  exact ⟨ms,sT,e1,e2,p1,p2,p3,p4⟩
 |cons o l ih=>
  intro pre pF st ms sT h1 h2 e1 e2 p1 p2 p3 p4 h
  simp only [j7,Option.bind_eq_some_iff] at h
  obtain ⟨b,hb,h⟩:=h
  have Mf:o.dst=some (bJ pre.length):=h1 pre.length o (by simp)
  obtain ⟨mk,hmk,hrun⟩:∃mk:Made,((b=true→fq P call o st=some mk)∧(b=false→mk={ v:=fL}))∧j7 P call ops l (st.gS o.dst mk)=some s:=by
   cases b with
   |true=>
    simp only [Option.bind_eq_some_iff] at h
    obtain ⟨m,hm,h⟩:=h
    exact ⟨m,⟨fun _=>hm,fun h=>by simp at h⟩,h⟩
   |false=>exact ⟨_,⟨fun h=>by simp at h,fun _=>rfl⟩,h⟩
  rw [Mf] at hrun
  have hne:∀j,j<pre.length→bJ j≠bJ pre.length:=fun j hj e=>by
   have:=h2 j pre.length (by simp;omega) (by simp) e
   omega
  obtain ⟨ms',HN,HO⟩:∃ms':Nat→Made,(∀j,j<pre.length→ms' j=ms j)∧ms' pre.length=mk:=⟨fun j=>if j<pre.length then ms j else mk,fun j hj=>if_pos hj,if_neg (by omega)⟩
  obtain ⟨CB,hs1,kr⟩:∃CB:Nat→St,(∀j,j≤pre.length→CB j=sT j)∧CB (pre.length+1)=st.gS (some (bJ pre.length)) mk:=⟨fun j=>if j≤pre.length then sT j else st.gS (some (bJ pre.length)) mk,fun j hj=>if_pos hj,if_neg (by omega)⟩
  have key:=ih (pre++[o]) pF (st.gS (some (bJ pre.length)) mk) ms' CB (by simpa using h1) (by simpa using h2) (by simpa using kr) (by rw [hs1 0 (by omega),e2])
   (fun i hi o' ho'=>by
    simp only [List.length_append,List.length_singleton] at hi
    by_cases e:i=pre.length
    · subst e
      simp at ho';subst ho'
      refine ⟨b, ?_, ?_, ?_⟩
      · rw [hs1 _ (Nat.le_refl _),e1];exact hb
      · rw [hs1 _ (Nat.le_refl _),e1,HO];exact hmk.1
      · rw [HO];exact hmk.2
    · rw [List.getElem?_append_left (by omega)] at ho'
      rw [hs1 i (by omega),HN i (by omega)]
      exact p1 i (by omega) o' ho')
   (fun i hi j hj=>by
    simp only [List.length_append,List.length_singleton] at hi
    by_cases e:i=pre.length+1
    · subst e
      rw [kr,jU,kC]
      by_cases ej:j=pre.length
      · subst ej;rw [if_pos rfl,if_pos rfl,HO];exact ⟨rfl,rfl⟩
      · rw [if_neg (hne j (by omega)),if_neg (hne j (by omega)),HN j (by omega),←e1]
        exact p2 pre.length (Nat.le_refl _) j (by omega)
    · rw [hs1 i (by omega),HN j (by omega)]
      exact p2 i (by omega) j hj)
   (fun i hi t ht=>by
    simp only [List.length_append,List.length_singleton] at hi
    by_cases e:i=pre.length+1
    · subst e
      have h0:t≠bJ pre.length:=fun e=>ht pre.length (by omega) e.symm
      rw [kr,jU,kC,if_neg h0,if_neg h0,←e1]
      exact p3 pre.length (Nat.le_refl _) t (fun j hj=>ht j (by omega))
    · rw [hs1 i (by omega)]
      exact p3 i (by omega) t ht)
   (fun i hi=>by
    simp only [List.length_append,List.length_singleton] at hi
    by_cases e:i=pre.length+1
    · subst e
      rw [kr]
      have:=p4 pre.length (Nat.le_refl _)
      rw [e1] at this
      exact this
    · rw [hs1 i (by omega)]
      exact p4 i (by omega))
   hrun
  simpa using key
end
end Go.Proofs.YtibbgjafjhcemaaDoor.Cul
namespace Go.Proofs.YtibbgjafjhcemaaDoor.Cul
open Go Go.RowKit
def tU (w:World) (b:Nat) (cs:List PV):Option (Nat×Nat)→Value→Prop
 |none,v=>v= .pointer (some ⟨b,0,none⟩)
 |some (sz,n),v=>∃cap c T,v= .slice (some ⟨b,0,none⟩) n cap∧0<sz∧n≤cap∧cs.length=n* sz∧w.heap[b]? =some (.cells c T (0,0))∧cap* sz≤c.size
def pS:Value→Option Nat
 | .pointer (some a)=>some a.block
 | .slice (some a) _ _=>some a.block
 |_=>none
theorem tU.qI {w:World} {b:Nat} {cs:List PV} {s:Option (Nat×Nat)} {v:Value} (h:tU w b cs s v):pS v=some b:=by
 cases s with
 |none=>have h':v= .pointer (some ⟨b,0,none⟩):=h;subst h';rfl
 |some x=>obtain ⟨cap,c,T,h1,_⟩:=h;subst h1;rfl
theorem tU.mono {w w':World} {b:Nat} {cs:List PV} {s:Option (Nat×Nat)} {v:Value} (hh:w'.heap[b]? =w.heap[b]?) (h:tU w b cs s v):tU w' b cs s v:=by
 cases s with
 |none=>exact h
 |some x=>obtain ⟨cap,c,T,h1,h2,h3,h4,h5,h6⟩:=h;exact ⟨cap,c,T,h1,h2,h3,h4,hh.trans h5,h6⟩
structure IV (base:Nat) (a:Act) (w:World) (Pr:aD) (d b:Nat) (cs:List PV) (s:Option (Nat×Nat)):Prop where
 at_:∃v,a.tmps[d]? =some v∧tU w b cs s v
 heap:∃c T vs,w.heap[b]? =some (.cells c T (0,0))∧vs<+:c.toList∧aT w Pr cs vs∧One vs
 lo:base≤b
 free:∀o,¬Pr b o
def cN (listed:Array Bool) (j:Nat):Prop:=listed.getD j false=true
structure JJ (base:Nat) (w0:World) (bg:aD) (N:Nat) (bf:eM) (st:St) (n:Nat) (bJ:Nat→Nat) (ms:Nat→Made) (listed:Array Bool) (a:Act) (w:World) (sL:St) (Pr:aD) (bk:Key→Nat):Prop where
 inv:Inv base w Pr bk sL a N
 chain:Below base w0 w∧(∀b o,b<base→Pr b o→bg b o)∧KO w0 w∧(∀k b,bf.k k=some b→bk (.bx k)=b)∧(∀b o v,bg b o→w0.cell? ⟨b,o,none⟩=some v→Pr b o∧w.cell? ⟨b,o,none⟩=some v)∧∀ds,bf.ds=some ds→a.defers=ds
 bx:sL.bx=st.bx
 gr:sL.gr=st.gr
 on:∀j,j<n→cN listed j→look sL.sl (bJ j)=some (gh (ms j).v)∧look sL.tg (bJ j)=some (ms j).tg
 off:∀t,(∀j,j<n→cN listed j→bJ j≠t)→look sL.sl t=look st.sl t∧look sL.tg t=look st.tg t
 new:∀j cs s,j<n→cN listed j→(ms j).v= .cr cs s→∃b,IV base a w Pr (bJ j) b cs s∧∀x,live sL x→bk x≠b
 apart:∀i j ci cj si sj,i<n→j<n→i≠j→cN listed i→cN listed j→(ms i).v= .cr ci si→(ms j).v= .cr cj sj→(a.tmps[bJ i]?).bind pS≠(a.tmps[bJ j]?).bind pS
def uC (w w':World) (aC:aD) (v:Value) (cs:List PV) (s:Option (Nat×Nat)):Prop:=
 ∃b,tU w' b cs s v∧w.heap.size≤b∧(∃c T vs,w'.heap[b]? =some (.cells c T (0,0))∧vs<+:c.toList∧aT w' aC cs vs∧One vs)∧∀o,¬aC b o
section
variable {P:Program} {base:Nat} {w w0:World} {Pr bg:aD} {bk:Key→Nat} {st sL:St} {a:Act} {N n:Nat} {bJ:Nat→Nat} {ms:Nat→Made} {listed:Array Bool} {bf:eM}
theorem rW {i j:Nat} (h:cN (listed.setIfInBounds i true) j):j=i∨cN listed j:=by
 by_cases e:i=j
 · exact .inl e.symm
 · unfold cN at h;rw [getD_set_ne false e] at h;exact .inr h
theorem N1 {i j:Nat} (h:cN listed j):cN (listed.setIfInBounds i true) j:=getD_set_true h
theorem A0 {i:Nat} (h:i<listed.size):cN (listed.setIfInBounds i true) i:=by
 unfold cN;simp [h]
theorem JJ.next (H:JJ base w0 bg N bf st n bJ ms listed a w sL Pr bk) {i:Nat} (hi:i<n) (hsz:n≤listed.size) (hoff:¬cN listed i) (hinj:∀i j,i<n→j<n→bJ i=bJ j→i=j) (hd:bJ i<N)
  (zT:aQ st.gr (.s (bJ i))=none) (xM:¬ek st (bJ i)) {w':World} {aC:aD} {v:Value} (hf:Fw w Pr w' aC) (hm:dD base w' aC bk sL a { v:=gh (ms i).v,gr:=none,tg:=(ms i).tg} v) (hx:jJ (ms i).v=false)
  (hnew:∀cs s,(ms i).v= .cr cs s→uC w w' aC v cs s):
  ∃Ra aS,JJ base w0 bg N bf st n bJ ms (listed.setIfInBounds i true) (a.put (some (bJ i)) v) w' Ra aC aS:=by
 have I':=H.inv.fw hf
 have hN:bJ i<a.tmps.size:=by rw [I'.size];exact hd
 have hno:∀j,j<n→cN listed j→bJ j≠bJ i:=fun j hj hl e=>hoff (hinj j i hj hi e ▸hl)
 have Wj:=H.off (bJ i) hno
 have R3:¬ek sL (bJ i):=fun ⟨sz,m,c,h⟩=>xM ⟨sz,m,c,Wj.1 ▸h⟩
 have R1:∀sz m c,gh (ms i).v≠ .ex sz m c:=fun sz m c e=>by
  cases hv:(ms i).v<;>rw [hv] at e hx<;>simp [gh,jJ] at e hx
 obtain ⟨aS,I2,jS,hbk⟩:=I'.gS hd (by rw [H.gr];exact zT) R3 hm rfl R1
 have hold:∀j,j<n→cN listed j→(a.put (some (bJ i)) v).tmps[bJ j]? =a.tmps[bJ j]? :=fun j hj hl=>by rw [cA hN,if_neg (hno j hj hl)]
 refine ⟨_,aS,I2,⟨H.chain.1.trans (hf.gX.mono H.inv.hb),fun b o hb h=>H.chain.2.1 b o hb (hf.old b o (Nat.lt_of_lt_of_le hb H.inv.hb) h),H.chain.2.2.1.trans hf.ko,fun k b e=>(hbk k).trans (H.chain.2.2.2.1 k b e),fun b o v h1 h2=>by
  obtain ⟨h3,h4⟩:=H.chain.2.2.2.2.1 b o v h1 h2
  have hkp:=hf.kp H.inv.bP
  exact ⟨hkp.pr b o h3,(hkp.cell b o h3).trans h4⟩,H.chain.2.2.2.2.2⟩,H.bx,H.gr, ?_, ?_, ?_, ?_⟩
 · intro j hj hl
   rw [jU,kC]
   rcases rW hl with rfl|hl
   · rw [if_pos rfl,if_pos rfl];exact ⟨rfl,rfl⟩
   · rw [if_neg (hno j hj hl),if_neg (hno j hj hl)];exact H.on j hj hl
 · intro t ht
   have h1:t≠bJ i:=fun e=>ht i hi (A0 (by omega)) e.symm
   rw [jU,kC,if_neg h1,if_neg h1]
   exact H.off t (fun j hj hl=>ht j hj (N1 hl))
 · intro j cs s hj hl hv
   rcases rW hl with rfl|hl
   · obtain ⟨b,h1,h2,h3,h4⟩:=hnew cs s hv
     refine ⟨b,⟨⟨v,by rw [cA hN,if_pos rfl],h1⟩,h3,Nat.le_trans H.inv.hb h2,h4⟩,fun x hx e=> ?_⟩
     obtain ⟨h5,h6⟩:=jS x hx
     have:=(H.inv.own x h5).2
     omega
   · obtain ⟨b,hn,hfr⟩:=H.new j cs s hj hl hv
     obtain ⟨c,T,vs,h1,hpre,h2,h3⟩:=hn.heap
     have p9:b<w.heap.size:=(Array.getElem?_eq_some_iff.1 h1).1
     obtain ⟨u,lZ,gu⟩:=hn.at_
     refine ⟨b,⟨⟨u,by rw [hold j hj hl];exact lZ,gu.mono (hf.heap p9)⟩,⟨c,T,vs,(hf.heap p9).trans h1,hpre,aT.mono (hf.kp H.inv.bP) h2,h3⟩,hn.lo,fun o h=>hn.free o (hf.old b o p9 h)⟩,fun x hx e=> ?_⟩
     obtain ⟨h5,h6⟩:=jS x hx
     exact hfr x h5 (h6 ▸e)
 · intro p q cp cq sp sq hp hq hpq iP QA MT MU
   have fresh:∀j cj sj,j<n→cN listed j→(ms j).v= .cr cj sj→∀ci si,(ms i).v= .cr ci si→(some v:Option Value).bind pS≠(a.tmps[bJ j]?).bind pS:=by
    intro j cj sj hj hl hv ci si Xk e
    obtain ⟨b,h1,h2,_⟩:=hnew ci si Xk
    obtain ⟨b2,hn,_⟩:=H.new j cj sj hj hl hv
    obtain ⟨c,T,vs,h3,_⟩:=hn.heap
    have p9:b2<w.heap.size:=(Array.getElem?_eq_some_iff.1 h3).1
    obtain ⟨u,lZ,gu⟩:=hn.at_
    rw [lZ,Option.bind_some,Option.bind_some,h1.qI,gu.qI] at e
    have e2:b=b2:=Option.some.inj e
    omega
   rcases rW iP with e1|DA
   · rcases rW QA with e2|zY
     · exact absurd (e1.trans e2.symm) hpq
     · rw [hold q hq zY,e1,cA hN,if_pos rfl]
       exact fresh q cq sq hq zY MU cp sp (e1 ▸MT)
   · rcases rW QA with e2|zY
     · rw [hold p hp DA,e2,cA hN,if_pos rfl]
       exact fun e=>fresh p cp sp hp DA MT cq sq (e2 ▸MU) e.symm
     · rw [hold q hq zY,hold p hp DA]
       exact H.apart p q cp cq sp sq hp hq hpq DA zY MT MU
theorem E1 {call:Cl} (hC:aP P call) (I:Inv base w Pr bk sL a N) {o:Oper} {sT:St} {m:Made} (S:oe o sT sL) (h:oO call o sT=some m) (K:Act→World→Prop) (Q:Exit→Act→World→Prop)
  (hK:∀v w' aC,Fw w Pr w' aC→dD base w' aC bk sL a { v:=gh m.v,gr:=none,tg:=m.tg} v→jJ m.v=false→
   (∀cs s,m.v= .cr cs s→uC w w' aC v cs s)→K (a.put o.dst v) w'):o.wp P a w K Q:=by
 unfold oO at h
 split at h
 · rename_i f args ts ho
   split at h
   · simp at h
   · rename_i hout
     simp only [Option.bind_eq_some_iff] at h
     obtain ⟨gp,has,r,hr,h⟩:=h
     split at h
     · rename_i sz n cs z hv hz
       split at h
       · rename_i g9
         obtain ⟨rfl,zX⟩:=g9
         simp only [Option.some.injEq] at h
         subst h
         obtain ⟨hbody,eo⟩:=hC.fn f _ r hr
         obtain ⟨i1,i2⟩:=oh (st':=sL) S.bx _ _ (fun x hx=>S.ev x (by simp [ho,Op.operands,Call.operands];exact .inr (by simpa using hx))) has
         have zN:¬(args.toList.any fun x=>((sL.ev x).map cw).getD true)=true:=by
          intro hh
          refine hout ?_
          simp only [List.any_eq_true] at hh ⊢
          obtain ⟨x,hx,h2⟩:=hh
          exact ⟨x,hx,by rw [←i2 x hx];exact h2⟩
         have hargs:=j8 I (by simpa using zN) i1
         have hge:a.eval (.func f)= .func (.func f) #[] #[]:=rfl
         have Fc:=hargs.app (ds:=[]) (us:=[]) .nil
         rw [List.append_nil] at Fc
         refine nS (lX (cs:=[]) ho hge) hbody (eo _ w Pr I.bP Fc) ?_
         rintro e w' ⟨v,aC,rfl,eP⟩
         refine ⟨v,rfl, ?_⟩
         obtain ⟨b,o',n',cap,aK,e1,e2,hroom,e3,e4,e5⟩:=eP.gr z hz
         rw [hv] at e1
         simp only [PV.sl.injEq,true_and] at e1
         obtain ⟨rfl,rfl⟩:=e1
         subst e3
         obtain ⟨qW,u5⟩:∃qW:aD,∀b' o,qW b' o↔(aC b' o∧b'≠b):=⟨fun b' o=>_,fun _ _=>Iff.rfl⟩
         have hf:Fw w Pr w' qW:=⟨eP.fw.gX,fun b' o h=>(u5 b' o).2 ⟨eP.fw.pr b' o h,fun e=>by have:=I.bP b' o h;omega⟩,fun b' o hlt h=>eP.fw.old b' o hlt ((u5 b' o).1 h).1,fun b' o h=>eP.fw.new b' o ((u5 b' o).1 h).1⟩
         obtain ⟨c,T,hb,hsz⟩:=hroom.there
         obtain ⟨vs,hrl,hone,hpre,hlen⟩:∃vs,aT w' qW cs vs∧One vs∧vs<+:c.toList∧cs.length=n* z:=by
          have cU:=eP.rp
          rw [hv,e2] at cU
          cases cU with
          |sl kq h1 hl hn hc hp=>exact ⟨_,nu zX kq,h1,nJ hb hc,hl⟩
         exact hK v w' qW hf ⟨fun _ _=>trivial,fun _ _ _ e=>by simp [gh] at e,fun z e=>by simp at e,fun q e=>by simp at e⟩ rfl (fun cs' s' e=>by
          cases e
          exact ⟨b,⟨cap,c,T,e2,hroom.hz,hroom.le,hlen,hb,by omega⟩,e4,⟨c,T,vs,hb,hpre,hrl,hone⟩,fun o h=>((u5 b o).1 h).2 rfl⟩)
       · simp at h
     · simp at h
 · simp at h
theorem Gf {call:Cl} (hC:aP P call) (I:Inv base w Pr bk sL a N) {o:Oper} {sT:St} {m:Made} (S:oe o sT sL) (h:fq P call o sT=some m) (K:Act→World→Prop) (Q:Exit→Act→World→Prop)
  (hK:∀v w' aC,Fw w Pr w' aC→dD base w' aC bk sL a { v:=gh m.v,gr:=none,tg:=m.tg} v→jJ m.v=false→
   (∀cs s,m.v= .cr cs s→uC w w' aC v cs s)→K (a.put o.dst v) w'):o.wp P a w K Q:=by
 have fA:∀x av,o.op= .assign x→sT.ev x=some av→(∀cs s,av≠ .cr cs s)→jJ av=false→m={ v:=av}→o.wp P a w K Q:=by
  intro x av ho he hn hx hm
  have he':=S.ev x (by simp [ho,Op.operands]) av he hn
  have hrun:(execOp a.eval o).run P w= .ok (.value (a.eval x)) w:=by simp [execOp,ho]
  refine nT hrun (hK _ _ _ (Fw.refl I.bP) ?_ (by rw [hm];exact hx) (fun cs s e=>by rw [hm] at e;exact absurd e (hn cs s)))
  obtain ⟨t,hr⟩:=fk I he'
  have hh:gh av=av:=by cases av<;>first|rfl|exact absurd rfl (hn _ _)
  rw [hm,hh]
  exact cJ (fun sz n cs e=>by subst e;simp [jJ] at hx) hr
 have other:∀m0,quiet P call o sT=some m0→jJ m0.v=false→m={ m0 with gr:=none}→o.wp P a w K Q:=by
  intro m0 hq hx hm
  refine AQ hC I (DW S hq) K Q fun v w' aC hf hmo=> ?_
  have QB:∀sz n cs,m0.v≠ .ex sz n cs:=fun sz n cs e=>by rw [e] at hx;simp [jJ] at hx
  have hnn:∀cs s,m0.v≠ .cr cs s:=fun cs s e=>by have:=hmo.val QB 0;rw [e] at this;exact this
  have hh:gh m0.v=m0.v:=by cases e:m0.v<;>first|rfl|exact absurd e (hnn _ _)
  subst hm
  refine hK v w' aC hf ⟨fun h t=>by simp only [hh] at h ⊢;exact hmo.val h t,fun sz n cs e=>by simp only [hh] at e;exact absurd e (QB sz n cs),fun z e=>by simp at e,hmo.tg⟩ hx (fun cs s e=>absurd e (hnn cs s))
 unfold fq at h
 split at h
 · exact E1 hC I S h K Q hK
 split at h
 · rename_i x ho
   split at h
   · rename_i p he;simp only [Option.some.injEq] at h;exact fA x _ ho he (by simp) rfl h.symm
   · rename_i k off he;simp only [Option.some.injEq] at h;exact fA x _ ho he (by simp) rfl h.symm
   · rename_i f caps he;simp only [Option.some.injEq] at h;exact fA x _ ho he (by simp) rfl h.symm
   · simp at h
 · rename_i t ho
   simp only [Option.map_eq_some_iff] at h
   obtain ⟨z,hz,rfl⟩:=h
   obtain ⟨i,zv,hi,qU,qT⟩:=lD (w:=w) (Pr:=Pr) hz
   obtain ⟨fS,gN⟩:=qT.iM (iS (jd hz))
   have hf:=rE I (.cells zv.cells t)
   have he:(execOp a.eval o).run P w= .ok (.value (.pointer (some ⟨w.heap.size,0,none⟩))) (w.alloc (.cells zv.cells t)):=by
    simp only [execOp,ho]
    refine cW ?_
    simp [Instr.alloc,zeroValue,typeInfo,hi,qU,qp]
   have hk:=hK (.pointer (some ⟨w.heap.size,0,none⟩)) _ _ hf ⟨fun _ _=>trivial,fun _ _ _ e=>by simp [gh] at e,fun z e=>by simp at e,fun q e=>by simp at e⟩ rfl (fun cs s e=>by
    cases e
    refine ⟨w.heap.size,rfl,Nat.le_refl _,⟨zv.cells,t,zv.cells.toList,by rw [heap_alloc],List.prefix_refl _,aT.mono (hf.kp I.bP) fS,gN⟩,fun o h=>by have:=I.bP _ _ h;omega⟩)
   unfold Oper.wp
   rw [he]
   exact hk
 · simp only [Option.bind_eq_some_iff] at h
   obtain ⟨m0,hm0,h⟩:=h
   split at h
   · simp at h
   · rename_i hx
     simp only [Option.some.injEq] at h
     exact other m0 hm0 (by simpa using hx) h.symm
end
end Go.Proofs.YtibbgjafjhcemaaDoor.Cul
namespace Go.Proofs.YtibbgjafjhcemaaDoor.Cul
open Go Go.RowKit
section
variable {P:Program} {base:Nat} {w w0:World} {Pr bg:aD} {bk:Key→Nat} {st sL:St} {a:Act} {N n:Nat} {bJ:Nat→Nat} {ms:Nat→Made} {sT:Nat→St} {listed:Array Bool} {ops:Array Oper} {call:Cl} {bf:eM}
theorem m9 {o:Oper} {j:Nat} (h:jO o j=true):∃e∈o.after,Region.binds .any e=true∧e.on=j:=by
 unfold jO at h
 obtain ⟨e,he,hb⟩:=Array.any_eq_true'.1 h
 simp only [Bool.and_eq_true,beq_iff_eq] at hb
 exact ⟨e,he,hb⟩
theorem lJ {l:List Oper} {i:Nat} {o:Oper} (h:nF l n i o=true):
  (∀g want,o.guard=some (g,want)→g<i∧jO o g=true)∧(∀e∈o.after,Region.binds .any e=true→e.on<i)∧
  ∀j,j<n→∀oj d,l[j]? =some oj→oj.dst=some d→(d∈tmpsOf o→(j<i∧jO o j=true)∨(i<j∧jO oj i=true)∨j=i)∧(j=i∨o.dst≠some d):=by
 simp only [nF,Bool.and_eq_true] at h
 obtain ⟨⟨h1,h2⟩,h3⟩:=h
 refine ⟨fun g want e=> ?_,fun e he hb=> ?_,fun j hj oj d vf hd=> ?_⟩
 · rw [e] at h1;simpa using h1
 · have:=Array.all_eq_true'.1 h2 e he
   simp only [Bool.or_eq_true,Bool.not_eq_true',decide_eq_true_eq] at this
   rcases this with this|this
   · rw [hb] at this;simp at this
   · exact this
 · have:=List.all_eq_true.1 h3 j (List.mem_range.2 hj)
   simp only [vf,Option.bind_some,hd,Bool.and_eq_true,Bool.or_eq_true,Bool.not_eq_true',decide_eq_true_eq,beq_iff_eq,bne_iff_ne] at this
   obtain ⟨h4,h5⟩:=this
   refine ⟨fun hm=> ?_,h5⟩
   rcases h4 with ((h4|h4)|h4)|h4
   · rw [List.contains_eq_mem] at h4;simp [hm] at h4
   · exact .inl h4
   · exact .inr (.inl h4)
   · exact .inr (.inr h4)
theorem vB {o:Oper} {t:Nat} (h:Operand.tmp t∈o.op.operands.toList):t∈tmpsOf o:=by
 unfold tmpsOf
 exact List.mem_filterMap.2 ⟨_,h,rfl⟩
theorem KW (T:Told P call ops.toList st n bJ ms sT) (H:JJ base w0 bg N bf st n bJ ms listed a w sL Pr bk) {i:Nat} (hi:i<n) {o:Oper} (ho:ops[i]? =some o) (nj:nF ops.toList n i o=true)
  (z8:∀e∈o.after,Region.binds .any e=true→cN listed e.on) (inv:HeadInv .any ops n listed) (hnot:¬cN listed i) (vc:∀j,j<n→jJ (ms j).v=false) (hfresh:∀j,j<n→¬ek st (bJ j)):
  oe o (sT i) sL:=by
 obtain ⟨hg,ha,Dy⟩:=lJ nj
 have hin:i≤n:=Nat.le_of_lt hi
 have near:∀t,t∈tmpsOf o→(∃j,j<i∧bJ j=t∧cN listed j)∨((∀j,j<i→bJ j≠t)∧∀j,j<n→cN listed j→bJ j≠t):=by
  intro t ht
  have hd:∀j,j<n→bJ j=t→(j<i∧cN listed j)∨(¬j<i∧¬cN listed j):=by
   intro j hj e
   obtain ⟨oj,vf,Me⟩:=T.dst j hj
   rcases (Dy j hj oj (bJ j) vf Me).1 (e ▸ht) with ⟨h1,h2⟩|⟨h1,h2⟩|h1
   · obtain ⟨e',he,hb,hon⟩:=m9 h2
     exact .inl ⟨h1,hon ▸z8 e' he hb⟩
   · obtain ⟨e',he,hb,hon⟩:=m9 h2
     refine .inr ⟨by omega,fun hl=>hnot ?_⟩
     have:=inv.closed j oj (by simpa using vf) hl e' he hb
     rw [hon] at this;exact this
   · subst h1;exact .inr ⟨by omega,hnot⟩
  by_cases h:∃j,j<i∧bJ j=t
  · obtain ⟨j,hj,e⟩:=h
    rcases hd j (by omega) e with ⟨_,hl⟩|⟨hc,_⟩
    · exact .inl ⟨j,hj,e,hl⟩
    · exact absurd hj hc
  · refine .inr ⟨fun j hj e=>h ⟨j,hj,e⟩,fun j hj hl e=> ?_⟩
    rcases hd j hj e with ⟨h1,_⟩|⟨_,h2⟩
    · exact h ⟨j,h1,e⟩
    · exact h2 hl
 constructor
 · intro x hx av he hn
   cases x with
   |tmp t=>
    simp only [St.ev] at he ⊢
    rcases near t (vB hx) with ⟨j,hj,e,hl⟩|⟨h1,h2⟩
    · have h3:=(T.done i hin j hj).1
      rw [e,he] at h3
      have h4:=(H.on j (by omega) hl).1
      rw [e] at h4
      have h5:(ms j).v=av:=(Option.some.inj h3).symm
      rw [h4,h5]
      cases av<;>first|rfl|exact absurd rfl (hn _ _)
    · rw [(T.rest i hin t h1).1] at he
      rw [(H.off t h2).1];exact he
   |const v=>exact he
   |func f=>exact he
   |global g=>exact he
 · intro u sz m c he
   have hne:∀j,j<i→bJ j≠u:=by
    intro j hj e
    have h3:=(T.done i hin j hj).1
    rw [e,he] at h3
    have:=vc j (by omega)
    rw [←Option.some.inj h3] at this
    simp [jJ] at this
   rw [(T.rest i hin u hne).1] at he
   have Sf:∀j,j<n→cN listed j→bJ j≠u:=fun j hj _ e=>hfresh j hj ⟨sz,m,c,e ▸he⟩
   rw [(H.off u Sf).1];exact he
 · rw [H.bx,(T.bx i hin).1]
 · rw [H.gr,(T.bx i hin).2]
 · intro t hx
   rcases near t (vB hx) with ⟨j,hj,e,hl⟩|⟨h1,h2⟩
   · have h3:=(T.done i hin j hj).2
     have h4:=(H.on j (by omega) hl).2
     rw [e] at h3 h4
     simp only [St.tag];rw [h3,h4]
   · simp only [St.tag]
     rw [(T.rest i hin t h1).2,(H.off t h2).2]
theorem BH (T:Told P call ops.toList st n bJ ms sT) (H:JJ base w0 bg N bf st n bJ ms listed a w sL Pr bk) {i:Nat} (hi:i<n) {o:Oper} (nj:nF ops.toList n i o=true)
  (z8:∀e∈o.after,Region.binds .any e=true→cN listed e.on) {b:Bool} (h:eA ops.toList o (sT i)=some b):eA ops.toList o sL=some b:=by
 obtain ⟨hg,_,_⟩:=lJ nj
 unfold eA at h ⊢
 cases hgd:o.guard with
 |none=>rw [hgd] at h;exact h
 |some g=>
  obtain ⟨j,want⟩:=g
  obtain ⟨hji,hb⟩:=hg j want hgd
  obtain ⟨e,he,Wp,hon⟩:=m9 hb
  have hl:cN listed j:=hon ▸z8 e he Wp
  obtain ⟨oj,vf,Me⟩:=T.dst j (by omega)
  simp only [hgd,vf,Option.bind_some,Me] at h ⊢
  have h3:=(T.done i (Nat.le_of_lt hi) j hji).1
  have h4:=(H.on j (by omega) hl).1
  rw [h3] at h
  rw [h4]
  split at h
  · rename_i c hc;rw [Option.some.inj hc];exact h
  · rename_i hc;rw [Option.some.inj hc];exact h
  · simp at h
def cnt (n:Nat) (listed:Array Bool):Nat:=((List.range n).filter fun j=> !listed.getD j false).length
theorem Hy (h:cnt n listed=0):∀j,j<n→cN listed j:=by
 intro j hj
 have:=List.eq_nil_of_length_eq_zero h
 have h2:=List.filter_eq_nil_iff.1 this j (List.mem_range.2 hj)
 unfold cN
 cases e:listed.getD j false with
 |true=>rfl
 |false=>exact absurd (by rw [e];rfl) h2
theorem Hx {f:Nat} (h:cnt n listed=f+1):∃j,j<n∧¬cN listed j:=by
 cases hl:(List.range n).filter fun j=> !listed.getD j false with
 |nil=>unfold cnt at h;rw [hl] at h;simp at h
 |cons j l=>
  have:j∈(List.range n).filter fun j=> !listed.getD j false:=by rw [hl];simp
  obtain ⟨h1,h2⟩:=List.mem_filter.1 this
  refine ⟨j,List.mem_range.1 h1,fun e=> ?_⟩
  unfold cN at e;rw [e] at h2;simp at h2
theorem J3 {i f:Nat} (hi:i<n) (hsz:n≤listed.size) (hoff:¬cN listed i) (h:cnt n listed=f+1):cnt n (listed.setIfInBounds i true)=f:=by
 have h1:((List.range n).filter fun j=> !(listed.setIfInBounds i true).getD j false)=((List.range n).filter fun j=> !listed.getD j false).erase i:=by
  rw [List.Nodup.erase_eq_filter ((List.nodup_range).filter _),List.filter_filter]
  apply List.filter_congr
  intro j hj
  by_cases e:i=j
  · subst e
    have:=A0 (listed:=listed) (i:=i) (by omega)
    unfold cN at this
    rw [this];simp
  · rw [getD_set_ne false e]
    have:(j !=i)=true:=by simpa using Ne.symm e
    rw [this];simp
 have h2:i∈(List.range n).filter fun j=> !listed.getD j false:=by
  refine List.mem_filter.2 ⟨List.mem_range.2 hi, ?_⟩
  unfold cN at hoff
  simpa using hoff
 unfold cnt at h ⊢
 rw [h1,List.length_erase_of_mem h2,h];rfl
theorem tQ {F:Fence} {m:Nat} {Q':Exit→Act→World→Prop}:∀(l:List Oper) (k:Nat) (listed:Array Bool) (a:Act) (w:World),(∀j,l[j]? =ops[k+j]?)→Region.seqB .any ops l.length k listed=true→wpListIn F m P ops Q' l a w→wpAnyIn F m P .any ops Q' l.length listed a w
 |[],_,_,_,_,_,hB,h=>⟨by simpa [Region.seqB] using hB,h⟩
 |o::l,k,listed,a,w,hl,hB,h=>by
  have h0:ops[k]? =some o:=by have:=hl 0;simpa using this.symm
  simp only [List.length_cons,Region.seqB,Bool.and_eq_true,decide_eq_true_eq] at hB
  obtain ⟨hr,hB⟩:=hB
  refine ⟨fun h1=>absurd h1 (by rw [hr];simp),fun i hi=> ?_⟩
  rw [hr] at hi
  obtain rfl:i=k:=by simpa using hi
  have hw:wpOpIn F m P ops Q' i (wpListIn F m P ops Q' l) a w:=by unfold wpOpIn;rw [h0];exact h
  exact wpOpIn_mono (fun a' w' h'=>tQ l (i+1) _ a' w' (fun j=>by have:=hl (j+1);rw [List.getElem?_cons_succ] at this;rw [this];congr 1;omega) hB h') hw
theorem vO {o:Oper} {m:Made} (h:fq P call o st=some m):∀c,o.op≠ .defer c:=by
 intro c ho
 simp [fq,ho,quiet,BV] at h
theorem Ev {F:Fence} (E:mq F) (m:Nat) (hC:aP P call) {Q:Exit→Act→World→Prop} (T:Told P call ops.toList st n bJ ms sT) (hn:n<ops.size) (hs:Region.sinkB .any ops n=true) (hc:Region.chainB .any ops n=true) (hq:Region.seqB .any ops (ops.size - n) n (qf ops.size n)=true)
  (nj:∀i o,i<n→ops[i]? =some o→nF ops.toList n i o=true) (hinj:∀i j,i<n→j<n→bJ i=bJ j→i=j) (hd:∀i,i<n→bJ i<N)
  (zT:∀i,i<n→aQ st.gr (.s (bJ i))=none) (xM:∀i,i<n→¬ek st (bJ i)) (vc:∀j,j<n→jJ (ms j).v=false)
  (LY:∀listed a w sL Pr bk,(∀j,j<n→cN listed j)→JJ base w0 bg N bf st n bJ ms listed a w sL Pr bk→wpListIn F m P ops Q (ops.toList.drop n) a w):
  ∀(f:Nat) (listed:Array Bool) (a:Act) (w:World) (sL:St) (Pr:aD) (bk:Key→Nat),cnt n listed=f→HeadInv .any ops n listed→JJ base w0 bg N bf st n bJ ms listed a w sL Pr bk→wpAnyIn F m P .any ops Q (f+(ops.size - n)) listed a w
 |0,listed,a,w,sL,Pr,bk,Dw,inv,H=>by
  have hall:=Hy Dw
  have hl:listed=qf ops.size n:=by
   apply Array.ext_getElem?
   intro i
   have hsz:=inv.size
   unfold qf
   simp only [List.getElem?_toArray,List.getElem?_map]
   by_cases h:i<ops.size
   · rw [List.getElem?_range h]
     simp only [Option.map_some]
     have hlt:i<listed.size:=by omega
     rw [Array.getElem?_eq_getElem hlt]
     congr 1
     by_cases hin:i<n
     · have:=hall i hin
       unfold cN at this
       simp [hlt] at this
       simp [this,hin]
     · have:=inv.tail i (by omega) h
       simp [hlt] at this
       simp [this,hin]
   · rw [Array.getElem?_eq_none (by omega),List.getElem?_eq_none (by simp;omega)];rfl
  have hlen:(ops.toList.drop n).length=ops.size - n:=by simp
  have:=tQ (F:=F) (m:=m) (P:=P) (Q':=Q) (ops.toList.drop n) n listed a w (fun j=>by simp [List.getElem?_drop]) (by rw [hlen,hl];exact hq) (LY listed a w sL Pr bk hall H)
  rw [hlen] at this
  rw [Nat.zero_add];exact this
 |f+1,listed,a,w,sL,Pr,bk,Dw,inv,H=>by
  obtain ⟨i0,Mq,Jc⟩:=Hx Dw
  have hsz:n≤listed.size:=by rw [inv.size];omega
  have hun:∀i,i<n→¬cN listed i→listed.getD i true=false:=fun i hi ho=>getD_in (by omega) (by unfold cN at ho;simpa using ho)
  have hne:∀d i,i=d→i<n→¬cN listed i→Region.ready .any ops listed≠[]:=by
   intro d
   induction d using Nat.strongRecOn with
   |_ d ih=>
    intro i hid hi ho
    subst hid
    obtain ⟨o,ho',_⟩:=T.dst i hi
    have zZ:ops[i]? =some o:=by simpa using ho'
    by_cases hall:∀e∈o.after,Region.binds .any e=true→listed.getD e.on false=true
    · have:i∈Region.ready .any ops listed:=mem_ready.2 ⟨hun i hi ho,o,zZ,hall⟩
      exact fun h=>by rw [h] at this;simp at this
    · have:∃e,e∈o.after∧Region.binds .any e=true∧¬listed.getD e.on false=true:=by
        apply Classical.byContradiction
        intro hno
        exact hall fun e he hb=>Classical.byContradiction fun hl=>hno ⟨e,he,hb,hl⟩
      obtain ⟨e,he,hb,hl⟩:=this
      have hlt:=(lJ (nj i o hi zZ)).2.1 e he hb
      exact ih e.on hlt e.on rfl (by omega) hl
  rw [show f+1+(ops.size - n)=(f+(ops.size - n))+1 by omega]
  refine ⟨fun h=>absurd h (hne i0 i0 rfl Mq Jc),fun i hi=> ?_⟩
  have hin:i<n:=by
   rcases Nat.lt_or_ge i n with h|h
   · exact h
   · exact absurd hi (tail_waits hs hc hn inv _ i0 rfl Mq (hun i0 Mq Jc) i h)
  obtain ⟨hgt,o,ho,hall⟩:=mem_ready.1 hi
  have hoff:¬cN listed i:=by unfold cN;rw [getD_both hgt];simp
  have hS:=KW T H hin ho (nj i o hin ho) hall inv hoff vc xM
  obtain ⟨b,hb,Ja,L8⟩:=T.step i hin o (by simpa using ho)
  have hw:=j5 (ops:=ops) H.inv (BH T H hin (nj i o hin ho) hall hb)
  have Mf:o.dst=some (bJ i):=by
   obtain ⟨o2,zZ,rH⟩:=T.dst i hin
   have:o2=o:=by
    have h3:ops[i]? =some o2:=by simpa using zZ
    rw [ho] at h3;exact (Option.some.inj h3).symm
   rw [←this];exact rH
  have go:∀v w' aC,Fw w Pr w' aC→dD base w' aC bk sL a { v:=gh (ms i).v,gr:=none,tg:=(ms i).tg} v→
   (∀cs s,(ms i).v= .cr cs s→uC w w' aC v cs s)→
   wpAnyIn F m P .any ops Q (f+(ops.size - n)) (listed.setIfInBounds i true) (a.put o.dst v) w':=by
   intro v w' aC hf hm hnew
   obtain ⟨Ra,aS,H'⟩:=H.next hin hsz hoff hinj (hd i hin) (zT i hin) (xM i hin) hf hm (vc i hin) hnew
   rw [Mf]
   exact Ev E m hC T hn hs hc hq nj hinj hd zT xM vc LY f _ _ _ _ _ _ (J3 hin hsz hoff Dw) (inv.set hi hin) H'
  unfold wpOpIn
  simp only [ho]
  rw [hw]
  cases b with
  |true=>
   simp only [if_true]
   exact oZ E (vO (Ja rfl)) (Gf hC H.inv hS (Ja rfl) _ Q fun v w' aC hf hm hx hnew=>go v w' aC hf hm hnew)
  |false=>
   simp only [Bool.false_eq_true,if_false]
   have he:=L8 rfl
   refine ⟨fun f _=>E.fn f, ?_⟩
   refine go undef w Pr (Fw.refl H.inv.bP) ?_ (fun cs s e=>by rw [he] at e;simp [fL] at e)
   rw [he]
   exact bD (Rp.an .nil)
end
end Go.Proofs.YtibbgjafjhcemaaDoor.Cul
namespace Go.Proofs.YtibbgjafjhcemaaDoor.Cul
open Go Go.RowKit
def n3 (x:Nat×AV):Nat×AV:=(x.1,gh x.2)
def eY (s:St):St:={ s with sl:=s.sl.map n3}
theorem xW (s:St) (t:Nat):look (eY s).sl t=(look s.sl t).map gh:=cg n3 (fun _ v=>gh v) (fun _=>rfl) s.sl t
theorem ry {α β:Type} (f:Nat×α→Nat×β) (hf:∀x,(f x).1=x.1) (d:Nat):∀l:List (Nat×α),bL (l.map f) d=(bL l d).map f
 |[]=>rfl
 |x::l=>by
  have h:=hf x
  cases hx:f x with
  |mk k v=>
   rw [hx] at h
   obtain ⟨k',v'⟩:=x
   simp only at h;subst h
   simp only [List.map_cons,hx,bL,ry f hf d l]
   split<;>simp [hx]
theorem xR (d:Nat) (x:Nat×AV):dP d (n3 x)=n3 (dP d x):=by
 obtain ⟨k,v⟩:=x
 have h1:bC d (gh v)=bC d v:=by cases v<;>rfl
 show (k,if bC d (gh v)=true then AV.dead else gh v)=(k,gh (if bC d v=true then AV.dead else v))
 rw [h1]
 by_cases h:bC d v=true
 · rw [if_pos h,if_pos h];rfl
 · rw [if_neg h,if_neg h]
theorem HS (s:St) (d:Nat) (v:AV) (hv:gh v=v):(eY s).put (some d) v=eY (s.put (some d) v):=by
 simp only [St.put,eY,List.map_cons,St.mk.injEq,and_true,true_and]
 rw [ry n3 (fun _=>rfl)]
 simp only [List.map_map]
 have e0:=xR d (d,v)
 have e1:n3 (d,v)=(d,v):=by simp [n3,hv]
 rw [e1] at e0
 rw [←e0]
 congr 1
 apply List.map_congr_left
 intro x _
 exact xR d x
theorem DN (d:Nat) (v:AV):eV d (gh v)=eV d v:=by cases v<;>rfl
theorem Bq {s s':St} {d:Nat} {cs:List PV} {v:AV} (hv:gh v=v) (h:s.dB d cs v=some s'):(eY s).dB d cs v=some (eY s')∧s'.sl=(s.put (some d) v).sl:=by
 simp only [St.dB] at h ⊢
 rw [HS s d v hv]
 have e:(bL (eY (s.put (some d) v)).sl d).all (fun x=>eV d x.2)=(bL (s.put (some d) v).sl d).all (fun x=>eV d x.2):=by
  simp only [eY]
  rw [ry n3 (fun _=>rfl),List.all_map]
  congr 1
  funext x
  exact DN d x.2
 rw [e]
 split at h
 · rename_i hc
   rw [if_pos hc]
   simp only [Option.some.injEq] at h
   subst h
   exact ⟨rfl,rfl⟩
 · simp at h
section
variable {P:Program} {base:Nat} {w w0:World} {Pr bg:aD} {bk:Key→Nat} {st sL:St} {a:Act} {N n:Nat} {bJ:Nat→Nat} {ms:Nat→Made} {sT:Nat→St} {listed:Array Bool} {ops:Array Oper} {call:Cl} {bf:eM}
def pQ (d:Nat):Option (Nat×Nat)→AV
 |none=> .bp d 0
 |some (sz,n)=> .bs d 0 sz n
structure SS (base:Nat) (w:World) (Pr:aD) (bk:Key→Nat) (s:St) (a:Act) (N:Nat):Prop where
 inv:Inv base w Pr bk (eY s) a N
 new:∀t cs p,look s.sl t=some (.cr cs p)→∃b,IV base a w Pr t b cs p∧∀x,live (eY s) x→bk x≠b
 apart:∀t u cs ds p q,t≠u→look s.sl t=some (.cr cs p)→look s.sl u=some (.cr ds q)→(a.tmps[t]?).bind pS≠(a.tmps[u]?).bind pS
theorem SS.box {s s':St} (H:SS base w Pr bk s a N) {d:Nat} {cs:List PV} {sp:Option (Nat×Nat)} (hd:look s.sl d=some (.cr cs sp)) (h:s.dB d cs (pQ d sp)=some s'):
  (∃aS,SS base w Pr aS s' a N∧∀k,k≠d→aS (.bx k)=bk (.bx k))∧∀t ds p,look s'.sl t=some (.cr ds p)→t≠d∧look s.sl t=some (.cr ds p):=by
 have u6:bC d (pQ d sp)=false:=by cases sp<;>rfl
 obtain ⟨h1,h2⟩:=Bq (by cases sp<;>rfl) h
 obtain ⟨b,hn,hfr⟩:=H.new d cs sp hd
 obtain ⟨c,T,vs,e1,hpre,e2,e3⟩:=hn.heap
 obtain ⟨u,lZ,gu⟩:=hn.at_
 have Ww:d<N:=by rw [←H.inv.size];exact (Array.getElem?_eq_some_iff.1 lZ).1
 obtain ⟨aS,I',hl,hbk⟩:=H.inv.dB (uJ:=pQ d sp) (v0:=u) Ww e1 hpre hn.lo hfr hn.free e2 e3 u6 (by cases sp<;>simp [pQ]) (fun kT a2 gH t k1 k2=>by
  cases sp with
  |none=>have hu:u= .pointer (some ⟨b,0,none⟩):=gu;subst hu;simp only [pQ,dQ];rw [k2]
  |some x=>
   obtain ⟨sz,m⟩:=x
   obtain ⟨cap,c',T',g1,g2,g3,g4,g5,g6⟩:=gu
   exact ⟨0,cap,_,c',T',by rw [k2];exact g1, .inl rfl,k1,by omega,g2,g3,by rw [k2];exact g5,by omega⟩) h1
 rw [ql lZ] at I'
 have hnp:∀t ds p,look s'.sl t=some (.cr ds p)→t≠d∧look s.sl t=some (.cr ds p):=by
  intro t ds p ht
  rw [h2,jK] at ht
  by_cases e:t=d
  · rw [if_pos e] at ht;cases sp<;>simp [pQ,bC] at ht
  · rw [if_neg e] at ht
    refine ⟨e, ?_⟩
    cases hq:look s.sl t with
    |none=>simp [hq] at ht
    |some x=>
     simp only [hq,Option.map_some,Option.some.injEq] at ht
     split at ht
     · simp at ht
     · rw [ht]
 refine ⟨⟨aS,⟨I',fun t ds p ht=> ?_,fun t u ds es p q htu ht hu=>H.apart t u ds es p q htu (hnp t ds p ht).2 (hnp u es q hu).2⟩,hbk⟩,hnp⟩
 obtain ⟨Jh,ht'⟩:=hnp t ds p ht
 obtain ⟨b',hn',R4⟩:=H.new t ds p ht'
 refine ⟨b',hn',fun x hx=> ?_⟩
 rcases hl x hx with ⟨_,e⟩|⟨hx',e⟩
 · rw [e]
   intro eb
   refine H.apart t d ds cs p sp Jh ht' hd ?_
   obtain ⟨u',Sq,Sr⟩:=hn'.at_
   rw [Sq,lZ,Option.bind_some,Option.bind_some,gu.qI,Sr.qI,eb]
 · rw [e];exact R4 x hx'
theorem oa:∀(l:List Oper) {s s2:St} {bk:Key→Nat},SS base w Pr bk s a N→(∀t cs p,look s.sl t=some (.cr cs p)→∃o∈l,o.dst=some t)→s.settle l=some s2→∃aS,Inv base w Pr aS s2 a N∧∀k,(∀o∈l,o.dst≠some k)→aS (.bx k)=bk (.bx k)
 |[],s,s2,bk,H,hn,h=>by
  simp only [St.settle,Option.some.injEq] at h
  subst h
  have hh:∀t,look (eY s).sl t=look s.sl t:=by
   intro t
   rw [xW]
   cases e:look s.sl t with
   |none=>rfl
   |some v=>
    cases v with
    |cr cs p=>obtain ⟨o,ho,_⟩:=hn t cs p e;simp at ho
    |_=>rfl
  refine ⟨bk,H.inv.less (fun t av ht=> .inl ((hh t).trans ht)) (fun k cs hk=>hk) (fun p z hp=>⟨hp, ?_⟩) (fun t q h=>h) (fun t u _ hx=> ?_) (fun _ _ _ _ _ _ e=>e),fun _ _=>rfl⟩
  · cases p with
    |s t=>exact (hh t).symm
    |c k o=>rfl
  · obtain ⟨sz,m,c,hx⟩:=hx
    exact ⟨sz,m,c,(hh u).symm.trans hx⟩
 |o::l,s,s2,bk,H,hn,h=>by
  simp only [St.settle,Option.bind_eq_some_iff] at h
  obtain ⟨s1,h1,h⟩:=h
  unfold St.CH at h1
  have go:∀{d:Nat} (hd:o.dst=some d) {cs:List PV} {sp:Option (Nat×Nat)} (hcs:look s.sl d=some (.cr cs sp)) (h1:s.dB d cs (pQ d sp)=some s1),∃aS,Inv base w Pr aS s2 a N∧∀k,(∀o'∈o::l,o'.dst≠some k)→aS (.bx k)=bk (.bx k):=by
   intro d hd cs sp hcs h1
   obtain ⟨⟨aS,H',hbk⟩,hnp⟩:=H.box hcs h1
   obtain ⟨gH,I2,cF⟩:=oa l H' (fun t ds p ht=>by
    obtain ⟨Jh,ht'⟩:=hnp t ds p ht
    obtain ⟨o',ho',hd'⟩:=hn t ds p ht'
    rcases List.mem_cons.1 ho' with rfl|ho'
    · rw [hd] at hd';exact absurd (Option.some.inj hd').symm Jh
    · exact ⟨o',ho',hd'⟩) h
   exact ⟨gH,I2,fun k hk=>(cF k (fun o' ho'=>hk o' (List.mem_cons_of_mem _ ho'))).trans (hbk k (fun e=>hk o (by simp) (by rw [hd,e])))⟩
  split at h1
  · rename_i d hd
    split at h1
    · rename_i cs hcs;exact go hd hcs h1
    · rename_i cs sz m hcs;exact go hd hcs h1
    · rename_i Mw Mx
      simp only [Option.some.injEq] at h1;subst h1
      obtain ⟨gH,I2,cF⟩:=oa l H (fun t ds p ht=>by
       obtain ⟨o',ho',hd'⟩:=hn t ds p ht
       rcases List.mem_cons.1 ho' with rfl|ho'
       · rw [hd] at hd'
         rw [Option.some.inj hd'] at Mw Mx
         cases p with
         |none=>exact absurd ht (Mw ds)
         |some x=>exact absurd ht (Mx ds x.1 x.2)
       · exact ⟨o',ho',hd'⟩) h
      exact ⟨gH,I2,fun k hk=>cF k (fun o' ho'=>hk o' (List.mem_cons_of_mem _ ho'))⟩
  · rename_i hd
    simp only [Option.some.injEq] at h1;subst h1
    obtain ⟨gH,I2,cF⟩:=oa l H (fun t ds p ht=>by
     obtain ⟨o',ho',hd'⟩:=hn t ds p ht
     rcases List.mem_cons.1 ho' with rfl|ho'
     · rw [hd] at hd';simp at hd'
     · exact ⟨o',ho',hd'⟩) h
    exact ⟨gH,I2,fun k hk=>cF k (fun o' ho'=>hk o' (List.mem_cons_of_mem _ ho'))⟩
theorem JJ.done (T:Told P call ops.toList st n bJ ms sT) (H:JJ base w0 bg N bf st n bJ ms listed a w sL Pr bk) (hall:∀j,j<n→cN listed j) (hinj:∀i j,i<n→j<n→bJ i=bJ j→i=j):SS base w Pr bk (sT n) a N∧∀t cs p,look (sT n).sl t=some (.cr cs p)→∃j,j<n∧bJ j=t:=by
 have hlk:∀t,look (eY (sT n)).sl t=look sL.sl t∧look (sT n).tg t=look sL.tg t∧((∃j,j<n∧bJ j=t∧look (sT n).sl t=some (ms j).v)∨(∀cs p,look (sT n).sl t≠some (.cr cs p))):=by
  intro t
  rw [xW]
  by_cases h:∃j,j<n∧bJ j=t
  · obtain ⟨j,hj,e⟩:=h
    have h1:=T.done n (Nat.le_refl _) j hj
    have h2:=H.on j hj (hall j hj)
    rw [e] at h1 h2
    exact ⟨by rw [h1.1,h2.1];rfl,by rw [h1.2,h2.2], .inl ⟨j,hj,e,h1.1⟩⟩
  · have hne:∀j,j<n→bJ j≠t:=fun j hj e=>h ⟨j,hj,e⟩
    have h1:=T.rest n (Nat.le_refl _) t hne
    have h2:=H.off t (fun j hj _=>hne j hj)
    have hnn:∀cs p,look st.sl t≠some (.cr cs p):=by
     intro cs p e
     rw [←h2.1] at e
     obtain ⟨v,_,hr⟩:=H.inv.slots t _ e
     exact hr
    refine ⟨?_,by rw [h1.2,h2.2], .inr (fun cs p=>by rw [h1.1];exact hnn cs p)⟩
    rw [h1.1,h2.1]
    cases e:look st.sl t with
    |none=>rfl
    |some v=>cases v<;>first|rfl|exact absurd e (hnn _ _)
 have hb:=T.bx n (Nat.le_refl _)
 have dF:(eY (sT n)).bx=sL.bx:=hb.1.trans H.bx.symm
 have eT:(eY (sT n)).gr=sL.gr:=hb.2.trans H.gr.symm
 have bY:∀x,live (eY (sT n)) x→live sL x:=by
  intro x hx
  cases x with
  |bx k=>obtain ⟨cs,h⟩:=hx;exact ⟨cs,dF ▸h⟩
  |sx t=>
   rcases hx with ⟨sz,m,c,h⟩|⟨z,h⟩
   · exact .inl ⟨sz,m,c,(hlk t).1 ▸h⟩
   · exact .inr ⟨z,eT ▸h⟩
  |cx k o=>obtain ⟨z,h⟩:=hx;exact ⟨z,eT ▸h⟩
 have hnp:∀t cs p,look (sT n).sl t=some (.cr cs p)→∃j,j<n∧bJ j=t∧(ms j).v= .cr cs p:=by
  intro t cs p ht
  rcases (hlk t).2.2 with ⟨j,hj,e,h⟩|h
  · rw [ht] at h;exact ⟨j,hj,e,(Option.some.inj h).symm⟩
  · exact absurd ht (h cs p)
 refine ⟨⟨?_,fun t cs p ht=> ?_,fun t u cs ds p q htu ht hu=> ?_⟩,fun t cs p ht=>by obtain ⟨j,hj,e,_⟩:=hnp t cs p ht;exact ⟨j,hj,e⟩⟩
 · refine H.inv.less (fun t av ht=> .inl ((hlk t).1 ▸ht)) (fun k cs hk=>dF ▸hk) (fun p z hp=>⟨eT ▸hp, ?_⟩) (fun t q h=>(hlk t).2.1 ▸h) (fun t u _ hx=> ?_) (fun t av j _ _ cs e=>by show look (eY (sT n)).bx j=some cs;rw [←e,←dF])
   · cases p with
     |s t=>exact (hlk t).1
     |c k o=>show look (eY (sT n)).bx k=look sL.bx k;rw [dF]
   · obtain ⟨sz,m,c,hx⟩:=hx
     exact ⟨sz,m,c,(hlk u).1.trans hx⟩
 · obtain ⟨j,hj,e,hv⟩:=hnp t cs p ht
   obtain ⟨b,h1,h2⟩:=H.new j cs p hj (hall j hj) hv
   exact ⟨b,e ▸h1,fun x hx=>h2 x (bY x hx)⟩
 · obtain ⟨j,hj,e,hv⟩:=hnp t cs p ht
   obtain ⟨k,hk,e',Ac⟩:=hnp u ds q hu
   have oT:j≠k:=fun h=>htu (by rw [←e,←e',h])
   have:=H.apart j k cs ds p q hj hk oT (hall j hj) (hall k hk) hv Ac
   rw [e,e'] at this;exact this
end
end Go.Proofs.YtibbgjafjhcemaaDoor.Cul
namespace Go.Proofs.YtibbgjafjhcemaaDoor.Cul
open Go Go.RowKit
section
variable {P:Program} {base:Nat} {w w0:World} {Pr bg:aD} {bk:Key→Nat} {st st':St} {a:Act} {N:Nat} {ops:Array Oper} {call:Cl} {bf:eM}
theorem AO {o:Oper} {m:Made} (h:fq P call o st=some m):jJ m.v=false:=by
 unfold fq at h
 split at h
 · unfold oO at h
   split at h
   · split at h
     · simp at h
     · simp only [Option.bind_eq_some_iff] at h
       obtain ⟨gp,_,r,_,h⟩:=h
       split at h
       · split at h
         · simp only [Option.some.injEq] at h;subst h;rfl
         · simp at h
       · simp at h
   · simp at h
 split at h
 · split at h
   · simp only [Option.some.injEq] at h;subst h;rfl
   · simp only [Option.some.injEq] at h;subst h;rfl
   · simp only [Option.some.injEq] at h;subst h;rfl
   · simp at h
 · simp only [Option.map_eq_some_iff] at h
   obtain ⟨z,_,rfl⟩:=h;rfl
 · simp only [Option.bind_eq_some_iff] at h
   obtain ⟨m0,_,h⟩:=h
   split at h
   · simp at h
   · rename_i hx
     simp only [Option.some.injEq] at h;subst h;simpa using hx
theorem Hw (n m:Nat):cnt n (Array.replicate m false)=n:=by
 unfold cnt
 rw [List.filter_eq_self.2 (fun j _=>by rw [getD_replicate_false];rfl),List.length_range]
theorem BZ (I:Inv base w Pr bk st a N):Fw w Pr w.drew Pr:=⟨(Below.refl _ _).drew,fun _ _ h=>h,fun _ _ _ h=>h,fun b o h=>by simpa using I.bP b o h⟩
theorem yh {F:Fence} (E:mq F) (m:Nat) (hC:aP P call) (hm:P.follows .mixedOrders=true) {id:Nat} {dr:Bool} {Q:Exit→Act→World→Prop} (hok:kD N ops dr=true) (tB:∀o∈ops.toList,∀d,o.dst=some d→bf.k d=none) (G:Good base w0 bg N bf st a w) (h:kV P call ops.toList dr st=some st')
  (hQ:∀a' w',Good base w0 bg N bf st' a' w'→Q .normal a' w'):(Code.region id ops dr).wpIn F m P Q a w:=by
 simp only [kD,Bool.and_eq_true] at hok
 obtain ⟨kj,tD⟩:=hok
 simp only [Bool.or_eq_true,Bool.not_eq_true'] at tD
 have hN:∀o∈ops.toList,∀d,o.dst=some d→d<N∧bf.k d=none:=by
  intro o ho d hd
  have:=List.all_eq_true.1 kj o ho
  rw [hd] at this;exact ⟨by simpa using this,tB o ho d hd⟩
 cases dr with
 |false=>
  simp only [kV,Bool.false_eq_true,if_false] at h
  exact wpIn_region_list (sF E m hC hQ ops.toList st a w hN G h)
 |true=>
  simp only [kV,if_true] at h
  split at h
  · rename_i R5
    obtain ⟨R6,QI⟩:=(Bool.and_eq_true _ _ ▸R5:_∧_)
    obtain ⟨hfr,Fk⟩:=(Bool.and_eq_true _ _ ▸R6:_∧_)
    replace tD:Az ops=true:=by
     rcases tD with (h1|h1)|h1
     · exact absurd h1 (by decide)
     · exact h1
     · rw [show (yS ops.toList||yL ops.toList)=true by simpa using h1] at QI;simpa [Az] using QI
    simp only [Option.bind_eq_some_iff] at h
    obtain ⟨s,hs,s2,kr,h⟩:=h
    replace tD:mT (u7 call ops.toList) ops=true:=by
     unfold zS at Fk
     unfold u7 at Fk ⊢
     cases hx:ops.toList.any (BV call) with
     |true=>rw [hx] at Fk;simp only [Bool.not_true,Bool.false_or,if_true] at Fk ⊢;exact Fk
     |false=>simp only [Bool.false_eq_true,if_false];exact tD
    unfold mT at tD
    generalize hn:u7 call ops.toList=n at*
    simp only [Bool.and_eq_true,decide_eq_true_eq] at tD
    obtain ⟨⟨⟨⟨hnlt,OZ⟩,hchain⟩,hseq⟩,Dy⟩:=tD
    have nj:∀i o,i<n→ops[i]? =some o→nF ops.toList n i o=true:=by
     intro i o hi ho
     have:=List.all_eq_true.1 Dy i (List.mem_range.2 hi)
     rw [ho] at this
     simp only [Bool.and_eq_true] at this
     exact this.2
    have hlen:(ops.toList.take n).length=n:=by simp;omega
    have yK:∀i,i<n→(ops.toList.take n)[i]? =ops.toList[i]? :=fun i hi=>by rw [List.getElem?_take,if_pos hi]
    have hfresh:∀i o,i<n→ops.toList[i]? =some o→pY st o=true:=by
     intro i o hi ho
     refine List.all_eq_true.1 hfr o (List.mem_of_getElem? (i:=i) ?_)
     rw [yK i hi];exact ho
    obtain ⟨bJ,RZ⟩:∃bJ:Nat→Nat,∀i o d,ops.toList[i]? =some o→o.dst=some d→bJ i=d:=⟨fun i=>((ops.toList[i]?).bind (·.dst)).getD 0,fun i o d ho hd=>by simp only [ho,Option.bind_some,hd,Option.getD_some]⟩
    have tC:∀i o,i<n→ops.toList[i]? =some o→o.dst=some (bJ i)∧aQ st.gr (.s (bJ i))=none∧¬ek st (bJ i):=by
     intro i o hi ho
     have:=hfresh i o hi ho
     unfold pY at this
     cases hd:o.dst with
     |none=>rw [hd] at this;simp at this
     |some d=>
      rw [hd] at this
      simp only [Bool.and_eq_true,Option.isNone_iff_eq_none] at this
      rw [RZ i o d ho hd]
      refine ⟨rfl,this.1,fun ⟨sz,m,c,hx⟩=> ?_⟩
      rw [hx] at this;simp at this
    have rI:∀i,i<n→∃o,ops.toList[i]? =some o:=fun i hi=>⟨_,List.getElem?_eq_getElem (by simp;omega)⟩
    have hinj:∀i j,i<n→j<n→bJ i=bJ j→i=j:=by
     intro i j hi hj e
     obtain ⟨oi,QE⟩:=rI i hi
     obtain ⟨oj,vf⟩:=rI j hj
     have:=((lJ (nj i oi hi (by simpa using QE))).2.2 j hj oj (bJ j) vf (tC j oj hj vf).1).2
     rcases this with this|this
     · exact this.symm
     · exact absurd ((tC i oi hi QE).1.trans (by rw [e])) this
    obtain ⟨ms,sT,t1,t2,t3,t4,t5,t6⟩:=told (P:=P) (call:=call) (ops:=ops.toList) (s:=s) (bJ:=bJ) (ops.toList.take n) st
     (fun i o ho=>by
      have hi:i<n:=by have:=(List.getElem?_eq_some_iff.1 ho).1;rw [hlen] at this;exact this
      exact (tC i o hi (by rw [←yK i hi];exact ho)).1)
     (fun i j hi hj e=>hinj i j (by omega) (by omega) e) hs
    rw [hlen] at t1 t3 t4 t5 t6
    have T:Told P call ops.toList st n bJ ms sT:=by
     refine ⟨fun i hi=> ?_,fun i hi o ho=>t3 i hi o (by rw [yK i hi];exact ho),t4,t5,t6⟩
     obtain ⟨o,ho⟩:=rI i hi
     exact ⟨o,ho,(tC i o hi ho).1⟩
    have vc:∀j,j<n→jJ (ms j).v=false:=by
     intro j hj
     obtain ⟨o,ho⟩:=rI j hj
     obtain ⟨b,_,Ja,L8⟩:=T.step j hj o ho
     cases b with
     |true=>exact AO (Ja rfl)
     |false=>rw [L8 rfl];rfl
    obtain ⟨Pr,bk,I,oR⟩:=G
    have jR:=BZ I
    have J0:JJ base w0 bg N bf st n bJ ms (Array.replicate ops.size false) a w.drew st Pr bk:=by
     have hno:∀j,¬cN (Array.replicate ops.size false) j:=fun j h=>by unfold cN at h;rw [getD_replicate_false] at h;simp at h
     exact ⟨I.fw jR,⟨oR.1.trans (jR.gX.mono I.hb),oR.2.1,oR.2.2.1.trans jR.ko,oR.2.2.2.1,fun b o v h1 h2=>oR.2.2.2.2.1 b o v h1 h2,oR.2.2.2.2.2⟩,rfl,rfl,fun j _ hl=>absurd hl (hno j),fun t _=>⟨rfl,rfl⟩,fun j _ _ _ hl=>absurd hl (hno j),fun i _ _ _ _ _ _ _ _ hl=>absurd hl (hno i)⟩
    have Sx:HeadInv .any ops n (Array.replicate ops.size false):=
     ⟨by simp,fun j oj _ hl=>(by rw [getD_replicate_false] at hl;cases hl),fun t _ ht=>getD_in (by simpa using ht) (getD_replicate_false _ _)⟩
    refine wpIn_region_any hm ?_
    have:=Ev (Q:=Q) E m hC T hnlt OZ hchain hseq nj hinj
     (fun i hi=>by obtain ⟨o,ho⟩:=rI i hi;exact (hN o (List.mem_of_getElem? ho) _ (tC i o hi ho).1).1)
     (fun i hi=>by obtain ⟨o,ho⟩:=rI i hi;exact (tC i o hi ho).2.1)
     (fun i hi=>by obtain ⟨o,ho⟩:=rI i hi;exact (tC i o hi ho).2.2) vc
     (fun listed a' w' sL aC aS hall H=>by
      obtain ⟨Qi,hnp⟩:=H.done T hall hinj
      rw [t1] at Qi hnp
      obtain ⟨gH,I2,cF⟩:=oa (ops.toList.take n) Qi (fun t cs p ht=>by
       obtain ⟨j,hj,e⟩:=hnp t cs p ht
       obtain ⟨o,ho⟩:=rI j hj
       exact ⟨o,List.mem_of_getElem? (i:=j) (by rw [yK j hj];exact ho),by rw [←e];exact (tC j o hj ho).1⟩) kr
      exact sF E m hC hQ (ops.toList.drop n) s2 a' w' (fun o ho=>hN o (List.mem_of_mem_drop ho)) ⟨aC,gH,I2,H.chain.1,H.chain.2.1,H.chain.2.2.1,fun k b e=>(cF k (fun o ho e2=>by rw [tB o (List.mem_of_mem_take ho) k e2] at e;simp at e)).trans (H.chain.2.2.2.1 k b e),H.chain.2.2.2.2⟩ h)
     n _ a w.drew st Pr bk (Hw n ops.size) Sx J0
    rw [show n+(ops.size - n)=ops.size by omega] at this
    exact this
  · simp at h
theorem rD {α β:Type} {f:α→Option (List β)}:∀{r:List α} {ls:List β},r.foldr (fun i acc=>(f i).bind fun l=>acc.map (l++ ·)) (some [])=some ls→∀i∈r,∃l,f i=some l∧∀x∈l,x∈ls
 |[],ls,h,i,hi=>by simp at hi
 |j::r,ls,h,i,hi=>by
  simp only [List.foldr_cons,Option.bind_eq_some_iff,Option.map_eq_some_iff] at h
  obtain ⟨l,hl,ls2,h2,rfl⟩:=h
  rcases List.mem_cons.1 hi with rfl|hi
  · exact ⟨l,hl,fun x hx=>List.mem_append_left _ hx⟩
  · obtain ⟨l2,h3,h4⟩:=rD h2 i hi
    exact ⟨l2,h3,fun x hx=>List.mem_append_right _ (h4 x hx)⟩
theorem vH {ks:List Nat} {ls:List St} {s:St} (h:oneOf ks ls=some s):∀x∈ls,x.cc ks=s:=by
 cases ls with
 |nil=>simp [oneOf] at h
 |cons y l=>
  simp only [oneOf] at h
  split at h
  · rename_i hall
    simp only [Option.some.injEq] at h
    subst h
    intro x hx
    rcases List.mem_cons.1 hx with rfl|hx
    · rfl
    · exact hall x hx
  · simp at h
theorem AA {F:Fence} (E:mq F) (m:Nat) (hC:aP P call) {Q:Exit→Act→World→Prop} {K:Act→World→Prop} {i:Nat} (hN:∀o∈ops.toList,∀d,o.dst=some d→d<N∧bf.k d=none) (G:Good base w0 bg N bf st a w) (h:qZ (iK P call) ops i st=some st')
  (hK:∀a' w',Good base w0 bg N bf st' a' w'→K a' w'):wpOpIn F m P ops Q i K a w:=by
 obtain ⟨Pr,bk,I,gM⟩:=G
 simp only [qZ,Option.bind_eq_some_iff] at h
 obtain ⟨o,ho,b,hb,h⟩:=h
 have hmem:o∈ops.toList:=List.mem_of_getElem? (i:=i) (by simpa using ho)
 have hw:=j5 (ops:=ops) I hb
 unfold wpOpIn
 simp only [ho]
 rw [hw]
 cases b with
 |true=>
  simp only [if_true]
  exact oZ E (j6 h) (Good.step gM (fun d hd=>(hN o hmem d hd).2) (uH hC I (fun d hd=>(hN o hmem d hd).1) h) hK)
 |false=>
  simp only [Bool.false_eq_true,if_false]
  simp only [Option.some.injEq] at h
  subst h
  obtain ⟨aS,I',hbk⟩:=xx I (fun d hd=>(hN o hmem d hd).1)
  exact ⟨fun f _=>E.fn f,hK _ _ ⟨Pr,aS,I',gM.1,gM.2.1,gM.2.2.1,fun k b e=>(hbk k).trans (gM.2.2.2.1 k b e),gM.2.2.2.2.1,fun ds e=>by
   have:=gM.2.2.2.2.2 ds e
   rw [←this];cases o.dst<;>rfl⟩⟩
theorem AI {F:Fence} (E:mq F) (m:Nat) (hC:aP P call) {Q:Exit→Act→World→Prop} (hN:∀o∈ops.toList,∀d,o.dst=some d→d<N∧bf.k d=none):
  ∀(g:Nat) (listed:Array Bool) (st:St) (a:Act) (w:World) (ls:List St),Good base w0 bg N bf st a w→pM (iK P call) ops g listed st=some ls→(∀s∈ls,∀a' w',Good base w0 bg N bf s a' w'→Q .normal a' w')→wpAnyIn F m P .any ops Q g listed a w
 |0,listed,st,a,w,ls,G,h,hQ=>by
  simp only [pM] at h
  split at h
  · rename_i he
    simp only [Option.some.injEq] at h
    subst h
    exact ⟨List.isEmpty_iff.1 he,hQ st (by simp) a w G⟩
  · simp at h
 |g+1,listed,st,a,w,ls,G,h,hQ=>by
  simp only [pM] at h
  split at h
  · simp at h
  · rename_i he
    refine ⟨fun e=>absurd (List.isEmpty_iff.2 e) he,fun i hi=> ?_⟩
    obtain ⟨l,h1,h2⟩:=rD h i hi
    simp only [Option.bind_eq_some_iff] at h1
    obtain ⟨s1,h3,h4⟩:=h1
    exact AA E m hC hN G h3 fun a' w' G'=>AI E m hC hN g _ s1 a' w' l G' h4 fun s hs=>hQ s (h2 s hs)
theorem Good.drew (G:Good base w0 bg N bf st a w):Good base w0 bg N bf st a w.drew:=by
 obtain ⟨Pr,bk,I,oR⟩:=G
 have jR:=BZ I
 exact ⟨Pr,bk,I.fw jR,oR.1.trans (jR.gX.mono I.hb),oR.2.1,oR.2.2.1.trans jR.ko,oR.2.2.2.1,fun b o v h1 h2=>oR.2.2.2.2.1 b o v h1 h2,oR.2.2.2.2.2⟩
theorem KE {F:Fence} (E:mq F) (m:Nat) (hC:aP P call) (hm:P.follows .mixedOrders=true) {id:Nat} {Q:Exit→Act→World→Prop} {ls:List St} (hok:kD N ops true=true) (tB:∀o∈ops.toList,∀d,o.dst=some d→bf.k d=none) (G:Good base w0 bg N bf st a w) (h:pM (iK P call) ops ops.size (Array.replicate ops.size false) st=some ls)
  (hQ:∀s∈ls,∀a' w',Good base w0 bg N bf s a' w'→Q .normal a' w'):(Code.region id ops true).wpIn F m P Q a w:=by
 simp only [kD,Bool.and_eq_true] at hok
 have hN:∀o∈ops.toList,∀d,o.dst=some d→d<N∧bf.k d=none:=by
  intro o ho d hd
  have:=List.all_eq_true.1 hok.1 o ho
  rw [hd] at this;exact ⟨by simpa using this,tB o ho d hd⟩
 exact wpIn_region_any hm (AI E m hC hN _ _ st a _ ls G.drew h hQ)
end
end Go.Proofs.YtibbgjafjhcemaaDoor.Cul
namespace Go.Proofs.YtibbgjafjhcemaaDoor.Cul
open Go Go.RowKit
section
variable {bf:eM} {P:Program} {base:Nat} {w w' w0:World} {Pr bg:aD} {bk:Key→Nat} {st:St} {a:Act} {N:Nat} {r:Nat}
def aD.less (Pr:aD) (r:Nat):aD:=fun b o=>Pr b o∧b≠r
theorem lR {o:Obj} (h:w.heap[r]? =some o) (hc:o.isCells=false) (i:Nat):w.cell? ⟨r,i,none⟩=none:=by
 unfold World.cell?
 simp only [h]
 cases o<;>simp_all [Obj.isCells]
mutual
theorem Rp.shrink (hr:∀i,w.cell? ⟨r,i,none⟩=none):∀{p:PV} {v:Value},Rp w Pr p v→Rp w (Pr.less r) p v
 |_,_, .lit h=> .lit h
 |_,_, .sl vi h1 hl hn hc hp=> .sl (aT.shrink hr vi) h1 hl hn hc (fun i hi=>⟨hp i hi,fun e=>by
  have:=hc i _ (List.getElem?_eq_getElem hi);rw [e,hr] at this;simp at this⟩)
 |_,_, .mE=> .mE
 |_,_, .el vi h1 hc hp=> .el (aT.shrink hr vi) h1 hc (fun i hi=>⟨hp i hi,fun e=>by
  have:=hc i _ (List.getElem?_eq_getElem hi);rw [e,hr] at this;simp at this⟩)
 |_,_, .fn vi=> .fn (aT.shrink hr vi)
 |_,_, .ag vi h1=> .ag (aT.shrink hr vi) h1
 |_,_, .an vi=> .an (aT.shrink hr vi)
theorem aT.shrink (hr:∀i,w.cell? ⟨r,i,none⟩=none):∀{cs:List PV} {vs:List Value},aT w Pr cs vs→aT w (Pr.less r) cs vs
 |_,_, .nil=> .nil
 |_,_, .cons h hs=> .cons (Rp.shrink hr h) (aT.shrink hr hs)
end
theorem DJ (I:Inv base w Pr bk st a N) {x:Key} (hx:live st x):∃c T,w.heap[bk x]? =some (.cells c T (0,0)):=by
 cases x with
 |bx k=>obtain ⟨cs,h⟩:=hx;obtain ⟨⟨T,c,vs,h1,_⟩,_⟩:=I.boxes k cs h;exact ⟨_,T,h1⟩
 |sx t=>
  rcases hx with ⟨sz,n,cs,h⟩|⟨z,h⟩
  · obtain ⟨v,_,o,cap,vs,_,_,_,_,_,h6,_⟩:=I.slots t _ h
    obtain ⟨c,T,e,_⟩:=h6.there;exact ⟨c,T,e⟩
  · obtain ⟨_,_,_,_,_,_,h3,_⟩:=I.gL t z h
    obtain ⟨c,T,e,_⟩:=h3.there;exact ⟨c,T,e⟩
 |cx k o=>
  obtain ⟨z,h⟩:=hx
  obtain ⟨_,_,_,_,_,_,_,_,h4,_⟩:=I.iF k o z h
  obtain ⟨c,T,e,_⟩:=h4.there;exact ⟨c,T,e⟩
theorem dQ.nR {t:Nat} {av:AV} {v:Value} (k1:∀{p v},Rp w Pr p v→Rp w' (Pr.less r) p v) (k2:∀{cs vs},aT w Pr cs vs→aT w' (Pr.less r) cs vs)
  (hex:∀sz n cs,av= .ex sz n cs→w'.heap[bk (.sx t)]? =w.heap[bk (.sx t)]?) (ki:∀k c T,w.heap[bk (.bx k)]? =some (.cells c T (0,0))→∃c',w'.heap[bk (.bx k)]? =some (.cells c' T (0,0))∧c'.size=c.size) (h:dQ st a w Pr bk t av v):dQ st a w' (Pr.less r) bk t av v:=by
 cases av with
 |pv p=>exact k1 h
 |bp k off=>exact h
 |cl f caps=>
  obtain ⟨vs,h1,h2,h3⟩:=h
  refine ⟨vs,h1,h2,fun i c u hc hu=> ?_⟩
  have:=h3 i c u hc hu
  cases c with
  |pv p=>exact k1 this
  |bp k off=>exact this
 |ex sz n cs=>
  obtain ⟨o,cap,vs,h1,h2,h3,h4,h5,h6,h7⟩:=h
  have he:=hex sz n cs rfl
  exact ⟨o,cap,vs,h1,k2 h2,h3,h4,iW he h5,⟨h6.hz,h6.le,by obtain ⟨c,T,e1,e2⟩:=h6.there;exact ⟨c,T,he.trans e1,e2⟩,fun o' ho=>h6.pr o' ho.1⟩,fun o' ho=>h7 o' ho.1⟩
 |xr u=>exact h
 |xe u off=>exact h
 |cr _ _=>exact h
 |dead=>trivial
 |bs j off sz n=>exact h.world (ki j)
 |mv f j off sz n=>obtain ⟨u,h1,h2⟩:=h;exact ⟨u,h1,h2.world (ki j)⟩
 |tg j off sz n rest=>obtain ⟨u,us,h1,h2,h3⟩:=h;exact ⟨u,us,h1,h2.world (ki j),k2 h3⟩
theorem Inv.nR (I:Inv base w Pr bk st a N) {row:Option Nat} (hg:w.grownBy w' row) (hr:∀r',row=some r'→r'=r) {o:Obj} (ho:w.heap[r]? =some o) (hc:o.isCells=false) (hd:∀d∈a.defers,d≠{ target:= .collected r,args:= #[]}):
  Inv base w' (Pr.less r) bk st a N:=by
 have hnone:=lR ho hc
 have hsame:∀k,k<w.heap.size→k≠r→w'.heap[k]? =w.heap[k]? :=fun k hk hne=>hg.block k hk (fun e=>hne (hr k e.symm))
 have rL:∀x,live st x→bk x≠r:=fun x hx e=>by
  obtain ⟨c,T,h⟩:=DJ I hx
  rw [e,ho] at h;cases h;simp [Obj.isCells] at hc
 have hlv:∀x,live st x→w'.heap[bk x]? =w.heap[bk x]? :=fun x hx=>hsame _ (I.own x hx).2 (rL x hx)
 have hK:Kp w (Pr.less r) w' (Pr.less r):=⟨fun _ _ h=>h,fun b i h=>World.cell?_of_block (w:=w) (hsame b (I.bP b i h.1) h.2)⟩
 have k1:∀{p v},Rp w Pr p v→Rp w' (Pr.less r) p v:=fun h=>Rp.mono hK (Rp.shrink hnone h)
 have k2:∀{cs vs},aT w Pr cs vs→aT w' (Pr.less r) cs vs:=fun h=>aT.mono hK (aT.shrink hnone h)
 have hroom:∀x,live st x→∀{o n cap sz},Room w Pr (bk x) o n cap sz→Room w' (Pr.less r) (bk x) o n cap sz:=fun x hx {o n cap sz} h=>
  ⟨h.hz,h.le,by obtain ⟨c,T,e1,e2⟩:=h.there;exact ⟨c,T,(hlv x hx).trans e1,e2⟩,fun o' ho=>h.pr o' ho.1⟩
 constructor
 · exact I.size
 · refine ⟨fun d zR=> ?_,I.defers.2⟩
   obtain ⟨D,e1,e2,e3⟩:=I.defers.1 d zR
   have hne:D≠r:=fun e=>hd d zR (by rw [e1,e])
   exact ⟨D,e1,(hsame D (Array.getElem?_eq_some_iff.1 e2).1 hne).trans e2,e3⟩
 · exact Nat.le_trans I.hb hg.size
 · exact fun b i h=>Nat.lt_of_lt_of_le (I.bP b i h.1) hg.size
 · intro t av ht
   obtain ⟨v,hv,cU⟩:=I.slots t av ht
   exact ⟨v,hv,dQ.nR k1 k2 (fun sz n cs e=>hlv (.sx t) (.inl ⟨sz,n,cs,by rw [←e];exact ht⟩)) (fun j c T e=>⟨c,(hsame _ (Array.getElem?_eq_some_iff.1 e).1 (fun e2=>by rw [e2,ho] at e;cases e;simp [Obj.isCells] at hc)).trans e,rfl⟩) cU⟩
 · exact fun x hx=>⟨(I.own x hx).1,Nat.lt_of_lt_of_le (I.own x hx).2 hg.size⟩
 · exact I.inj
 · intro k cs hq
   obtain ⟨⟨T',c',us',e1,e0,e2,e3⟩,e4⟩:=I.boxes k cs hq
   exact ⟨⟨T',c',us',(hlv (.bx k) ⟨cs,hq⟩).trans e1,e0,k2 e2,e3⟩,fun o ho=>e4 o ho.1⟩
 · intro t z hz
   obtain ⟨o',n,cap,c,e1,e2,e3,e0⟩:=I.gL t z hz
   exact ⟨o',n,cap,c,e1,e2,hroom (.sx t) (.inr ⟨z,hz⟩) e3,e0⟩
 · intro k i z hz
   obtain ⟨o',n,cap,c,dw,e1,e2,e3,e4,e0⟩:=I.iF k i z hz
   exact ⟨o',n,cap,c,dw,e1,e2,(World.cell?_of_block (w:=w) (hlv (.bx k) ⟨dw,e1⟩)).trans e3,hroom (.cx k i) ⟨z,hz⟩ e4,e0⟩
 · intro t q ht hq
   rw [←I.tags t q ht hq]
   cases q with
   |s x=>rfl
   |c k i=>
    obtain ⟨z,hz⟩:=hq
    obtain ⟨o',n,cap,c,dw,e1,e2,e3,e4,e0⟩:=I.iF k i z hz
    exact World.cell?_of_block (w:=w) (hlv (.bx k) ⟨dw,e1⟩)
theorem KO.grown {w0 w w':World} {r0:Option Nat} (gq:KO w0 w) (hg:w.grownBy w' r0) (hr:∀r,r0=some r→w0.heap.size≤r):KO w0 w':=by
 have hb:∀k o,k<w0.heap.size→w.heap[k]? =some o→w'.heap[k]? =some o:=fun k o hk h=>
  (hg.block k (Array.getElem?_eq_some_iff.1 h).1 (fun e=>by have:=hr k e.symm;omega)).trans h
 exact ⟨⟨Nat.le_trans gq.size hg.size,fun k o h ho=>hb k o (Array.getElem?_eq_some_iff.1 h).1 (gq.same k o h ho)⟩,fun k c T fz h=>by
  obtain ⟨c',h3,h4⟩:=gq.sized k c T fz h
  exact ⟨c',hb k _ (Array.getElem?_eq_some_iff.1 h).1 h3,h4⟩⟩
theorem Inv.marks (I:Inv base w Pr bk st a N) {ds:List Deferred} (h:∀d∈ds,Mark base w d) (hn:ds.Nodup):Inv base w Pr bk st { a with defers:=ds} N:=
 ⟨I.size,⟨h,hn⟩,I.hb,I.bP,fun t av ht=>(by
   obtain ⟨v,hv,hr⟩:=I.slots t av ht
   exact ⟨v,hv,by cases av<;>exact hr⟩),I.own,I.inj,I.boxes,I.gL,I.iF,fun t q ht hq=>(by
   have:=I.tags t q ht hq
   cases q<;>exact this)⟩
theorem xT {F:Fence} {n:Nat} {fn:Func} {R:Ending→World→Prop} (hb0:base=w0.heap.size) (hz:bf.ds=none) (hR:∀(tmps:Array Value) (w:World),Good base w0 bg N bf st { tmps:=tmps,defers:=[]} w→∃v,(results fn tmps).run P w= .ok v w∧R (.returned v) w):
  ∀(ds:List Deferred) (tmps:Array Value) (w:World),Good base w0 bg N bf st { tmps:=tmps,defers:=ds} w→LeavesInM F n P fn tmps R ds .returning w
 |[],tmps,w,G=>by
  obtain ⟨v,h1,h2⟩:=hR tmps w G
  exact ⟨v,h1,h2⟩
 |d::ds,tmps,w,G=>by
  obtain ⟨Pr,bk,I,hb,hp,gq,fo,hkc,_⟩:=G
  obtain ⟨D,e1,e2,e3⟩:=I.defers.1 d (by simp)
  have ve:=I.defers.2
  simp only [List.nodup_cons] at ve
  refine ⟨by simp, .inl ⟨D,_,by rw [e1],run_takeDeferred e2,xT hb0 hz hR ds tmps _ ?_⟩⟩
  have I1:=I.marks (ds:=ds) (fun d' hd'=>I.defers.1 d' (List.mem_cons_of_mem _ hd')) ve.2
  have hg:w.grownBy (w.putObj D (.deferred none)) (some D):=grownBy_putObj' w D _
  have I2:=I1.nR hg (r:=D) (fun r' e=>by cases e;rfl) e2 rfl (fun d' hd' e=>ve.1 (by rw [e1,←e];exact hd'))
  refine ⟨_,bk,I2,hb.grown hg (Nat.le_trans (Nat.le_of_eq hb0) hb.size) (fun k e=>by cases e;exact e3),fun b o hlt h=>hp b o hlt h.1,⟨⟨Nat.le_trans gq.size (by simp),fun k o h ho=> ?_⟩,fun k c T fz h=> ?_⟩,fo,fun b o v h1 h2=> ?_,fun ds' e=>by rw [hz] at e;simp at e⟩
  rotate_left
  · obtain ⟨c',h3,h4⟩:=gq.sized k c T fz h
    have hk:k≠D:=fun e=>by
     have:=(Array.getElem?_eq_some_iff.1 h).1;omega
    exact ⟨c',by rw [World.putObj_heap_other hk];exact h3,h4⟩
  · obtain ⟨h3,h4⟩:=hkc b o v h1 h2
    have Qu:b≠D:=fun e=>by subst e;rw [lR e2 rfl] at h4;simp at h4
    exact ⟨⟨h3,Qu⟩,(World.cell?_of_block (w:=w) (a:=⟨b,o,none⟩) (World.putObj_heap_other Qu)).trans h4⟩
  have hk:k≠D:=fun e=>by
   have:=(Array.getElem?_eq_some_iff.1 h).1;omega
  rw [World.putObj_heap_other hk]
  exact gq.same k o h ho
end
end Go.Proofs.YtibbgjafjhcemaaDoor.Cul
namespace Go.Proofs.YtibbgjafjhcemaaDoor.Cul
open Go Go.RowKit
def iD (Pi:aD) (A B:World):Prop:=∀b o v,Pi b o→A.cell? ⟨b,o,none⟩=some v→B.cell? ⟨b,o,none⟩=some v
theorem iD.trans {Pi:aD} {A B C:World} (h:iD Pi A B) (k:iD Pi B C):iD Pi A C:=fun b o v h1 h2=>k b o v h1 (h b o v h1 h2)
theorem iD.nR {Pi:aD} {W:World} {l:Nat} {o:Obj} (o':Obj) (h:W.heap[l]? =some o) (hc:o.isCells=false):iD Pi W (W.putObj l o'):=fun b i v h1 h2=>by
 have hb:b≠l:=fun e=>by subst e;rw [lR h hc] at h2;simp at h2
 exact (World.cell?_of_block (w:=W) (a:=⟨b,i,none⟩) (World.putObj_heap_other hb)).trans h2
def aD.plus (Pr:aD) (A B:World):aD:=fun b o=>Pr b o∨(A.heap.size≤b∧∃v,B.cell? ⟨b,o,none⟩=some v)
def aD.here (Pr:aD) (w:World):aD:=fun b o=>Pr b o∧∃v,w.cell? ⟨b,o,none⟩=some v
def C8 (P:Program) (n:Nat) (g:Nat) (lb:Array Value) (enc:Nat→Array Value) (N:Nat) (Pr:aD) (w:World):Prop:=
 ∀(l:Nat) (J:Nat→aD→World→Prop) (Jx:World→Prop) (W:World),Below w.heap.size w W→(∀k Pi A B,J k Pi A→A.grownBy B none→J k (Pi.plus A B) B)→(∀A B,Jx A→A.grownBy B none→Jx B)→
  (∀k Pi W1,J k Pi W1→k<N→YieldAt Fence.wide (n - 1) P l (enc k) W1 fun e W'=>(e= .returned (.bool true)∧J (k+1) Pi W'∧iD Pi W1 W'∧W1.heap.size≤W'.heap.size)∨(e= .returned (.bool false)∧Jx W'))→
  J 0 (Pr.here w) W→CallsIn Fence.wide n P g (#[.func (.yield l) #[] #[]]++lb) W fun e W'=>(∃v,e= .returned v)∧((∃Pi,J N Pi W')∨Jx W')
def Iv (B:Nat) (Pi:aD) (I:World→Prop) (Ix:Code→World→Prop) (W:World):Exit→Act→World→Prop
 | .normal,_,W'=>KeepsFrom B W W'∧iD Pi W W'∧I W'
 | .ret,_,W'=>KeepsFrom B W W'∧Ix .ret W'
 | .exit id,_,W'=>KeepsFrom B W W'∧Ix (.exit id) W'
 |_,_,_=>False
def wK (B:Nat) (I:World→Prop):Prop:=∀(W:World) (l:Nat) (o o':Obj),I W→B≤l→W.heap[l]? =some o→o.isCells=false→o'.isCells=false→I (W.putObj l o')
theorem sy {P:Program} {n:Nat} {g:Operand} {ps:Array Tmp} {assign body:Code} {Q:Exit→Act→World→Prop} {a:Act} {w:World}
  (h1:1≤n) {gf:Nat} {lb:Array Value} (hg:a.eval g= .func (.func gf) #[] lb) (eg:∀args w,(callFunc gf args).run P w= .ok (.enter gf args) w)
  {enc:Nat→Array Value} {Pr:aD} {N:Nat} (hseq:C8 P (n - 1) gf lb enc N Pr w)
  (hps:∀k,k<N→(enc k).size=ps.size)
  (I:Nat→aD→World→Prop) (Ix:Code→World→Prop) (hI:∀k Pi,wK w.heap.size (I k Pi)) (hIx:∀c,wK w.heap.size (Ix c)) (Wc:∀k Pi A B,I k Pi A→A.grownBy B none→I k (Pi.plus A B) B) (L3:∀A B,I 0 (Pr.here w) A→A.grownBy B none→I 0 (Pr.here w) B) (RQ:∀c A B,Ix c A→A.grownBy B none→Ix c B) (h0:I 0 (Pr.here w) w)
  (Ax:Nat→aD→Act→World→Prop) (hAx:∀k Pi a',wK w.heap.size (Ax k Pi a'))
  (hassign:∀(l k:Nat) (Pi:aD) (W:World) (K:Act→World→Prop),I k Pi W→k<N→(∀a' W',KeepsFrom w.heap.size W W'→iD Pi W W'→Ax k Pi a' W'→K a' W')→
   assign.wpIn (Fence.wide.inRound l) (n - 1 - 1) P (Exit.then K (fun _ _ _=>False)) { tmps:=(ps.zip (enc k)).foldl (fun t (p,v)=>t.setIfInBounds p v) a.tmps,defers:=[]} W)
  (hbody:∀(l k:Nat) (Pi:aD) (a':Act) (W:World),Ax k Pi a' W→k<N→body.wpIn (Fence.wide.inRound l) (n - 1 - 1) P (Iv w.heap.size Pi (I (k+1) Pi) Ix W) a' W)
  (hdone:∀(D:Nat) (Pi:aD) (W:World),w.heap.size≤D→I N Pi W→W.heap[D]? =some (.deferred (some []))→Q .normal { a with defers:={ target:= .collected D,args:= #[]}::a.defers} W)
  (hstop:∀(D:Nat) (c:Code) (W:World),w.heap.size≤D→Ix c W→W.heap[D]? =some (.deferred (some []))→c.wpIn Fence.wide n P Q { a with defers:={ target:= .collected D,args:= #[]}::a.defers} W):
  (Code.rangeFunc g ps assign body).wpIn Fence.wide n P Q a w:=by
 refine wpIn_rangeFunc ?_
 intro fn hfn
 obtain ⟨rec,ou⟩:∃rec:LoopState→Option Code→Loop,rec=fun st pe=>{ state:=st,pending:=pe,fn,tmps:=a.tmps,params:=ps,assign,body,defers:=w.heap.size}:=⟨_,rfl⟩
 obtain ⟨W1,Fa⟩:∃W1,(w.alloc (.deferred (some []))).alloc (.loop (rec .ready none))=W1:=⟨_,rfl⟩
 have Wh:W1.heap[w.heap.size+1]? =some (.loop (rec .ready none)):=by
  rw [←Fa];have:=World.alloc_heap_new (w.alloc (.deferred (some []))) (.loop (rec .ready none));rwa [World.size_alloc] at this
 have Wg:W1.heap[w.heap.size]? =some (.deferred (some [])):=by
  rw [←Fa];exact (Below.heap_alloc _ _ _ (by simp)).trans (World.alloc_heap_new w _)
 have Wb:I 0 (Pr.here w) W1:=by rw [←Fa];exact L3 _ _ (L3 _ _ h0 (World.grownBy_alloc _ _ none)) (World.grownBy_alloc _ _ none)
 have eJ:Below w.heap.size w W1:=by
  rw [←Fa];exact ((Below.refl _ w).alloc (Nat.le_refl _) _).alloc (by simp) _
 have still:∀{A B:World} {k:Nat} {o:Obj},A.grownBy B none→A.heap[k]? =some o→B.heap[k]? =some o:=fun hg hk=>(hg.block _ (Array.getElem?_eq_some_iff.1 hk).1 (by simp)).trans hk
 refine ⟨w.heap.size+1,[{ target:= .collected w.heap.size,args:= #[]}],W1,{ target:= .fn (.func gf) lb,args:= #[.func (.yield (w.heap.size+1)) #[] #[]]},W1,gf,
  #[.func (.yield (w.heap.size+1)) #[] #[]]++lb,W1, ?_, ?_,fun _ _=>trivial, ?_,fun _=>h1, ?_⟩
 · rw [←Fa,ou];exact run_enterLoop_outer _ _ _ _ _
 · simp only [resolve,hg]
   simp [go_sem]
 · simp [invoke,go_sem,eg]
 · refine (hseq (w.heap.size+1)
     (fun k Pi W=>I k Pi W∧W.heap[w.heap.size+1]? =some (.loop (rec .ready none))∧W.heap[w.heap.size]? =some (.deferred (some [])))
     (fun W=>∃c,Ix c W∧W.heap[w.heap.size+1]? =some (.loop (rec .done (some c)))∧W.heap[w.heap.size]? =some (.deferred (some [])))
     W1 eJ (fun k Pi A B hs hg'=>⟨Wc k Pi A B hs.1 hg',still hg' hs.2.1,still hg' hs.2.2⟩)
     (fun A B hs hg'=>by obtain ⟨c,hc,hl,hk⟩:=hs;exact ⟨c,RQ c A B hc hg',still hg' hl,still hg' hk⟩)
     ?_ ⟨Wb,Wh,Wg⟩).mono ?_
   ·
      rintro k Pi W ⟨hi,hl,hk⟩ hlen
      have hy:=run_yield (P:=P) (args:=enc k) hl (by rw [ou];exact hps k hlen)
      rw [ou] at hy
      refine ⟨fn,_,assign,body,hy,roundIn_of_wpIn hfn (hassign _ k Pi W _ hi hlen ?_)⟩
      clear hy
      intro a' Wa Fq hkp Wo
      have hla:=Fq.same _ _ (by omega) hl rfl
      have hka:=Fq.same _ _ (Nat.le_refl _) hk rfl
      have hlt:w.heap.size+1<Wa.heap.size:=(Array.getElem?_eq_some_iff.1 hla).1
      refine ⟨_,run_beginRound hla (by rw [ou]), ?_⟩
      have jS:(Wa.putObj (w.heap.size+1) (.loop { rec .ready none with state:= .busy})).heap[w.heap.size+1]? =some (.loop { rec .ready none with state:= .busy}):=World.putObj_heap_same hlt
      have hk2:(Wa.putObj (w.heap.size+1) (.loop { rec .ready none with state:= .busy})).heap[w.heap.size]? =some (.deferred (some [])):=(World.putObj_heap_other (by omega)).trans hka
      have B4:iD Pi Wa (Wa.putObj (w.heap.size+1) (.loop { rec .ready none with state:= .busy})):=iD.nR _ hla rfl
      refine wpIn_mono (hbody _ k Pi a' _ (hAx k Pi a' _ _ _ _ Wo (by omega) hla rfl rfl) hlen) ?_
      have fin:∀(jump:Option Code) (W3:World),KeepsFrom w.heap.size (Wa.putObj (w.heap.size+1) (.loop { rec .ready none with state:= .busy})) W3→
        (Instr.endRound (w.heap.size+1) jump).run P W3= .ok (.bool jump.isNone) (W3.putObj (w.heap.size+1) (.loop (rec (if jump.isNone then .ready else .done) jump)))∧
        W3.heap[w.heap.size+1]? =some (.loop { rec .ready none with state:= .busy})∧
        (W3.putObj (w.heap.size+1) (.loop (rec (if jump.isNone then .ready else .done) jump))).heap[w.heap.size+1]? =some (.loop (rec (if jump.isNone then .ready else .done) jump))∧
        (W3.putObj (w.heap.size+1) (.loop (rec (if jump.isNone then .ready else .done) jump))).heap[w.heap.size]? =some (.deferred (some [])):=fun jump W3 u9=>by
       have jt:=u9.same _ _ (by omega) jS rfl
       have:=run_endRound (P:=P) jump jt
       rw [ou] at this ⊢
       exact ⟨this,by rw [ou] at jt;exact jt,World.putObj_heap_same (Array.getElem?_eq_some_iff.1 jt).1,(World.putObj_heap_other (by omega)).trans (u9.same _ _ (Nat.le_refl _) hk2 rfl)⟩
      rintro e a3 W3 hp
      cases e with
      |normal=>
       obtain ⟨u9,Sc,Fl⟩:=hp
       obtain ⟨hr,jt,Fs,Fp⟩:=fin none W3 u9
       exact ⟨_,_,hr, .inl ⟨rfl,⟨hI _ _ _ _ _ _ Fl (by omega) jt rfl rfl,Fs,Fp⟩,hkp.trans ((B4.trans Sc).trans (iD.nR _ jt rfl)),by
        have h1:=Fq.size
        have h2:=u9.size
        simp at h2 ⊢
        omega⟩⟩
      |ret=>
       obtain ⟨u9,Fl⟩:=hp
       obtain ⟨hr,jt,Fs,Fp⟩:=fin (some .ret) W3 u9
       exact ⟨_,_,hr, .inr ⟨rfl, .ret,hIx _ _ _ _ _ Fl (by omega) jt rfl rfl,Fs,Fp⟩⟩
      |exit id=>
       obtain ⟨u9,Fl⟩:=hp
       obtain ⟨hr,jt,Fs,Fp⟩:=fin (some (.exit id)) W3 u9
       exact ⟨_,_,hr, .inr ⟨rfl, .exit id,hIx _ _ _ _ _ Fl (by omega) jt rfl rfl,Fs,Fp⟩⟩
      |goto t=>exact hp.elim
      |panic ch=>exact hp.elim
      |outgrown=>exact hp.elim
   ·
      rintro e W2 ⟨⟨v,rfl⟩,(⟨Pi,hi,hl,hk⟩|⟨c,hi,hl,hk⟩)⟩
      · exact ⟨none,_,by have:=run_endLoop (P:=P) hl (by rw [ou];simp);rw [ou] at this;exact this,hdone _ Pi _ (Nat.le_refl _) (hI _ _ _ _ _ _ hi (by omega) hl rfl rfl) ((World.putObj_heap_other (by omega)).trans hk)⟩
      · exact ⟨some c,_,by have:=run_endLoop (P:=P) hl (by rw [ou];simp);rw [ou] at this;exact this,hstop _ c _ (Nat.le_refl _) (hIx _ _ _ _ _ hi (by omega) hl rfl rfl) ((World.putObj_heap_other (by omega)).trans hk)⟩
end Go.Proofs.YtibbgjafjhcemaaDoor.Cul
namespace Go.Proofs.YtibbgjafjhcemaaDoor.Cul
open Go Go.RowKit
section
variable {bf:eM} {P:Program} {base:Nat} {w w' w0:World} {Pr aC bg:aD} {bk aS:Key→Nat} {st cV s2:St} {a a':Act} {N:Nat}
def Carry (w:World) (Pr:aD) (w':World) (aC:aD):Prop:=∀b o v,Pr b o→w.cell? ⟨b,o,none⟩=some v→aC b o∧w'.cell? ⟨b,o,none⟩=some v
mutual
theorem Rp.carry (c:Carry w Pr w' aC):∀{p:PV} {v:Value},Rp w Pr p v→Rp w' aC p v
 |_,_, .lit h=> .lit h
 |_,_, .sl hr h1 hl hn hc hp=> .sl (aT.carry c hr) h1 hl hn (fun j v hj=>(c _ _ v (hp j (List.getElem?_eq_some_iff.1 hj).1) (hc j v hj)).2) (fun i hi=>(c _ _ _ (hp i hi) (hc i _ (List.getElem?_eq_getElem hi))).1)
 |_,_, .mE=> .mE
 |_,_, .el hr h1 hc hp=> .el (aT.carry c hr) h1 (fun j v hj=>(c _ _ v (hp j (List.getElem?_eq_some_iff.1 hj).1) (hc j v hj)).2) (fun i hi=>(c _ _ _ (hp i hi) (hc i _ (List.getElem?_eq_getElem hi))).1)
 |_,_, .fn hr=> .fn (aT.carry c hr)
 |_,_, .ag hr h1=> .ag (aT.carry c hr) h1
 |_,_, .an hr=> .an (aT.carry c hr)
theorem aT.carry (c:Carry w Pr w' aC):∀{cs:List PV} {vs:List Value},aT w Pr cs vs→aT w' aC cs vs
 |_,_, .nil=> .nil
 |_,_, .cons h hs=> .cons (Rp.carry c h) (aT.carry c hs)
end
theorem Good.own {r0:Option Nat} {ds:List Deferred} (hds:bf.ds=some ds) (hm:∀d∈ds,Mark base w0 d) (zP:base≤w0.heap.size) (G:Good base w0 bg N bf st a w) (hg:w.grownBy w' r0) (hr:∀r,r0=some r→w0.heap.size≤r∧∃o:Obj,w.heap[r]? =some o∧o.isCells=false):Good base w0 bg N bf st a w':=by
 obtain ⟨Pr,bk,I,hb,hp,gq,fo,hkc,hdf⟩:=G
 have hkeep:KO w0 w':=gq.grown hg (fun r e=>(hr r e).1)
 have iO:Below base w0 w':=hb.grown hg (Nat.le_trans zP hb.size) (fun k e=>Nat.le_trans zP (hr k e).1)
 cases r0 with
 |none=>
  have hf:Fw w Pr w' Pr:=⟨(Below.refl _ w).grown hg (Nat.le_refl _) (by simp),fun _ _ h=>h,fun _ _ _ h=>h,fun b o h=>Nat.lt_of_lt_of_le (I.bP b o h) hg.size⟩
  refine ⟨Pr,bk,I.fw hf,iO,hp,hkeep,fo,fun b o v h1 h2=> ?_,hdf⟩
  obtain ⟨h3,h4⟩:=hkc b o v h1 h2
  exact ⟨h3,((hf.kp I.bP).cell b o h3).trans h4⟩
 |some r=>
  obtain ⟨hlo,o,ho,hc⟩:=hr r rfl
  have I2:=I.nR hg (r:=r) (fun r' e=>by cases e;rfl) ho hc (fun d hd e=>by
   rw [hdf ds hds] at hd
   obtain ⟨D,e1,e2,_⟩:=hm d hd
   rw [e1] at e
   have:D=r:=by simpa using e
   have:=(Array.getElem?_eq_some_iff.1 e2).1
   omega)
  refine ⟨_,bk,I2,iO,fun b o hlt h=>hp b o hlt h.1,hkeep,fo,fun b i v h1 h2=> ?_,hdf⟩
  obtain ⟨h3,h4⟩:=hkc b i v h1 h2
  have Fe:b≠r:=fun e=>by subst e;rw [lR ho hc] at h4;simp at h4
  refine ⟨⟨h3,Fe⟩,(World.cell?_of_block (w:=w) (a:=⟨b,i,none⟩) ?_).trans h4⟩
  exact hg.block b (I.bP b i h3) (fun e=>Fe (by cases e;rfl))
structure Lh (ks:List Nat) (cV:St):Prop where
 sl:∀t av,look cV.sl t=some av→(∃p,av= .pv p)∨(∃k off,av= .bp k off∧ks.contains k=false)∨(∃f caps,av= .cl f caps∧caps.any (yI ks)=false)∨av= .dead
 bx:∀k cs,look cV.bx k=some cs→ks.contains k=false
theorem xY (st:St) (ks:List Nat) (t:Nat):look (st.iC ks).sl t=(look st.sl t).map (qv ks):=cg (JH ks) (fun _ v=>qv ks v) (fun _=>rfl) st.sl t
theorem r9 (st:St) (ks:List Nat):Lh ks (st.iC ks):=by
 constructor
 · intro t av h
   rw [xY] at h
   cases e:look st.sl t with
   |none=>simp [e] at h
   |some v=>
    simp only [e,Option.map_some,Option.some.injEq] at h
    subst h
    cases v with
    |pv p=>exact .inl ⟨p,rfl⟩
    |bp k off=>
     simp only [qv]
     cases hk:ks.contains k with
     |true=>simp
     |false=>exact .inr (.inl ⟨k,off,by simp,hk⟩)
    |cl f caps=>
     simp only [qv]
     cases hk:caps.any (yI ks) with
     |true=>simp
     |false=>exact .inr (.inr (.inl ⟨f,caps,by simp,hk⟩))
    |_=>exact .inr (.inr (.inr rfl))
 · intro k cs h
   simp only [St.iC] at h
   rw [ju (fun x=> !ks.contains x)] at h
   split at h
   · rename_i hk;simpa using hk
   · simp at h
theorem Inv.iC (I:Inv base w Pr bk st a N) (ks:List Nat):Inv base w Pr bk (st.iC ks) a N:=by
 refine I.less (fun t av h=> ?_) (fun k cs h=> ?_) (fun p z h=> ?_) (fun t q h=>by simp [St.iC,look] at h) (fun t u h _=> ?_) (fun t av j h hj _ _=> ?_)
 · rw [xY] at h
   cases e:look st.sl t with
   |none=>simp [e] at h
   |some v=>
    simp only [e,Option.map_some,Option.some.injEq] at h
    obtain ⟨u,hu,_⟩:=I.slots t v e
    subst h
    cases v with
    |pv p=>exact .inl rfl
    |bp k off=>
     simp only [qv]
     split
     · exact .inr ⟨rfl,u,hu⟩
     · exact .inl rfl
    |cl f caps=>
     simp only [qv]
     split
     · exact .inr ⟨rfl,u,hu⟩
     · exact .inl rfl
    |_=>exact .inr ⟨rfl,u,hu⟩
 · simp only [St.iC] at h
   rw [ju (fun x=> !ks.contains x)] at h
   split at h
   · exact h
   · simp at h
 · simp only [St.iC] at h
   rw [er (Pl.tF fun k=> !ks.contains k)] at h
   split at h
   · rename_i hk
     refine ⟨h, ?_⟩
     cases p with
     |s t=>simp [Pl.tF] at hk
     |c k o=>
      simp only [Pl.tF] at hk
      show look (st.iC ks).bx k=look st.bx k
      simp only [St.iC]
      rw [ju (fun x=> !ks.contains x),if_pos hk]
   · simp at h
 · exfalso
   have:=(r9 st ks).sl t
   rcases h with h|⟨off,h⟩
   · rcases this _ h with ⟨p,e⟩|⟨k,o,e,_⟩|⟨f,c,e,_⟩|e<;>simp at e
   · rcases this _ h with ⟨p,e⟩|⟨k,o,e,_⟩|⟨f,c,e,_⟩|e<;>simp at e
 · exfalso
   rcases (r9 st ks).sl t av h with ⟨p,e⟩|⟨k,o,e,_⟩|⟨f,c,e,_⟩|e<;>subst e<;>simp [oA] at hj
end
end Go.Proofs.YtibbgjafjhcemaaDoor.Cul
namespace Go.Proofs.YtibbgjafjhcemaaDoor.Cul
open Go Go.RowKit
section
variable {bf:eM} {P:Program} {base:Nat} {w w' w0:World} {Pr aC bg:aD} {bk aS:Key→Nat} {st cV s2:St} {a a':Act} {N:Nat} {ks:List Nat}
theorem Ai {α:Type} (f:Nat→Bool) (l:List (Nat×α)) (t:Nat):look (l.filter (fun x=>f x.1)) t=if f t then look l t else none:=ju f l t
theorem za (I:Inv base w Pr bk cV a N) (S:Lh ks cV) (I2:Inv base w' aC aS s2 a' N) (c:Carry w Pr w' aC) (hk:∀k,ks.contains k=false→aS (.bx k)=bk (.bx k)) (ko:KO w w'):
  Inv base w' aC aS (cV.after s2) a N:=by
 have dF:∀k,look (cV.after s2).bx k=if (look cV.bx k).isSome then look s2.bx k else none:=fun k=>Ai (fun k=>(look cV.bx k).isSome) s2.bx k
 have eT:∀p,aQ (cV.after s2).gr p=if p.tF (fun k=>(look cV.bx k).isSome) then aQ s2.gr p else none:=fun p=>er (Pl.tF fun k=>(look cV.bx k).isSome) s2.gr p
 have bY:∀x,live (cV.after s2) x→live s2 x:=by
  intro x hx
  cases x with
  |bx k=>
   obtain ⟨cs,h⟩:=hx
   rw [dF] at h
   split at h
   · exact ⟨cs,h⟩
   · simp at h
  |sx t=>
   exfalso
   rcases hx with ⟨sz,n,cs,h⟩|⟨z,h⟩
   · rcases S.sl t _ h with ⟨p,e⟩|⟨k,o,e,_⟩|⟨f,c,e,_⟩|e<;>simp at e
   · rw [eT] at h;simp [Pl.tF] at h
  |cx k o=>
   obtain ⟨z,h⟩:=hx
   rw [eT] at h
   split at h
   · exact ⟨z,h⟩
   · simp at h
 constructor
 · exact I.size
 · exact ⟨fun d hd=>(I.defers.1 d hd).ko ko,I.defers.2⟩
 · exact I2.hb
 · exact I2.bP
 · intro t av ht
   obtain ⟨v,hv,hr⟩:=I.slots t av ht
   refine ⟨v,hv, ?_⟩
   rcases S.sl t av ht with ⟨p,rfl⟩|⟨k,off,rfl,hkk⟩|⟨f,caps,rfl,hkk⟩|rfl
   · exact Rp.carry c hr
   · simp only [dQ] at hr ⊢;rw [hk k hkk];exact hr
   · obtain ⟨vs,h1,h2,h3⟩:=hr
     refine ⟨vs,h1,h2,fun i cp u hc hu=> ?_⟩
     have:=h3 i cp u hc hu
     cases cp with
     |pv p=>exact Rp.carry c this
     |bp k off=>
      have Fq:ks.contains k=false:=by
       rw [List.any_eq_false] at hkk
       have:=hkk _ (List.mem_of_getElem? hc)
       simpa [yI] using this
      simp only [gB] at this ⊢;rw [hk k Fq];exact this
   · trivial
 · exact fun x hx=>I2.own x (bY x hx)
 · exact fun x y hx hy=>I2.inj x y (bY x hx) (bY y hy)
 · intro k cs h
   rw [dF] at h
   split at h
   · exact I2.boxes k cs h
   · simp at h
 · intro t z h
   rw [eT] at h;simp [Pl.tF] at h
 · intro k i z h
   rw [eT] at h
   split at h
   · rename_i hc
     obtain ⟨o,n,cap,cs,dw,h1,h2,h3,h4⟩:=I2.iF k i z h
     refine ⟨o,n,cap,cs,dw, ?_,h2,h3,h4⟩
     rw [dF,if_pos (by simpa [Pl.tF] using hc)];exact h1
   · simp at h
 · intro t q h
   simp [St.after,look] at h
def ld (ps:List Nat) (vs:List Value) (tmps:Array Value):Array Value:=(ps.zip vs).foldl (fun t x=>t.setIfInBounds x.1 x.2) tmps
theorem vN:∀(ps:List Nat) (xs:List PV) (vs:List Value) (st:St) (a:Act) (bk:Key→Nat),Inv base w Pr bk st a N→aT w Pr xs vs→(∀p∈ps,p<N)→
  ∃aS,Inv base w Pr aS (mU ps xs st) { a with tmps:=ld ps vs a.tmps} N∧∀k,aS (.bx k)=bk (.bx k)
 |[],xs,vs,st,a,bk,I,hr,hp=>⟨bk,by simpa [mU,ld] using I,fun _=>rfl⟩
 |p::ps,_,_,st,a,bk,I, .nil,hp=>⟨bk,by simpa [mU,ld] using I,fun _=>rfl⟩
 |p::ps,x::xs,v::vs,st,a,bk,I, .cons h hs,hp=>by
  have hm:dD base w Pr bk st a { v:= .pv x} v:=bD h
  obtain ⟨zh,I1,eJ⟩:=I.je (hp p (by simp)) hm
  obtain ⟨gH,I2,cF⟩:=vN ps xs vs _ _ zh I1 hs (fun q hq=>hp q (List.mem_cons_of_mem _ hq))
  refine ⟨gH, ?_,fun k=>(cF k).trans (eJ k)⟩
  have e:ld (p::ps) (v::vs) a.tmps=ld ps vs (a.put (some p) v).tmps:=rfl
  rw [e]
  exact I2
end
end Go.Proofs.YtibbgjafjhcemaaDoor.Cul
namespace Go.Proofs.YtibbgjafjhcemaaDoor.Cul
open Go Go.RowKit
def toExit:Xt→Exit
 | .normal=> .normal
 | .exit id=> .exit id
 | .ret=> .ret
def oG (P:Program) (it:Nat→List PV→Option (Nat×List (List PV))):Prop:=
 ∀f caps k xs,it f caps=some (k,xs)→oF P f∧∀(vs:List Value) (w:World) (Pr:aD),(∀b o,Pr b o→b<w.heap.size)→aT w Pr caps vs→
  ∃enc:Nat→List Value,(∀i x,xs[i]? =some x→(enc i).length=k∧∀W aC,aT W aC x (enc i))∧∀n,1≤n→C8 P n f vs.toArray (fun i=>(enc i).toArray) xs.length Pr w
def Na:Xt→Code
 | .normal=> .skip
 | .exit id=> .exit id
 | .ret=> .ret
section
variable {bf:eM} {P:Program} {base:Nat} {w w' w0:World} {Pr aC bg:aD} {bk aS:Key→Nat} {st cV s2:St} {a a':Act} {N m:Nat} {ks:List Nat}
theorem IU (ps:Array Nat) (vs:List Value) (tmps:Array Value):(ps.zip vs.toArray).foldl (fun t (p,v)=>t.setIfInBounds p v) tmps=ld ps.toList vs tmps:=by
 unfold ld
 rw [←Array.foldl_toList,Array.toList_zip]
def Part (P:Program) (base N:Nat) (m:Nat) (ks:List Nat) (c:Code) (f:St→Option (Xt×St)):Prop:=
 ∀(l:Nat) (w0:World) (bg:aD) (bf:eM) (st:St) (a:Act) (w:World) (x:Xt) (s:St),(∀d,ks.contains d=true→bf.k d=none)→Good base w0 bg N bf st a w→f st=some (x,s)→
  ∀Q:Exit→Act→World→Prop,(∀a' w',Good base w0 bg N bf s a' w'→Q (toExit x) a' w')→c.wpIn (Fence.wide.inRound l) m P Q a w
def gD (base:Nat) (w0:World) (bg:aD) (N:Nat) (bf:eM) (Pi:aD) (st:St) (a:Act) (w:World):Prop:=
 ∃Pr bk,Inv base w Pr bk st a N∧Below base w0 w∧(∀b o,b<base→Pr b o→bg b o)∧KO w0 w∧(∀k b,bf.k k=some b→bk (.bx k)=b)∧(∀b o v,bg b o→w0.cell? ⟨b,o,none⟩=some v→Pr b o∧w.cell? ⟨b,o,none⟩=some v)∧(∀ds,bf.ds=some ds→a.defers=ds)∧
  ∀b o,Pi b o→Pr b o∧∃v,w.cell? ⟨b,o,none⟩=some v
theorem gD.good {Pi:aD} (h:gD base w0 bg N bf Pi st a w):Good base w0 bg N bf st a w:=by
 obtain ⟨Pr,bk,I,h1,h2,h3,h4,h5,h6,_⟩:=h
 exact ⟨Pr,bk,I,h1,h2,h3,h4,h5,h6⟩
theorem gD.nR {Pi:aD} {ds:List Deferred} (hds:bf.ds=some ds) (hm:∀d∈ds,Mark base w0 d) (zP:base≤w0.heap.size) (G:gD base w0 bg N bf Pi st a w) {l:Nat} {o o':Obj} (hl:w0.heap.size≤l) (ho:w.heap[l]? =some o) (hc:o.isCells=false):gD base w0 bg N bf Pi st a (w.putObj l o'):=by
 obtain ⟨Pr,bk,I,hb,hp,gq,fo,hkc,hdf,L5⟩:=G
 have hg:w.grownBy (w.putObj l o') (some l):=grownBy_putObj' w l _
 have I2:=I.nR hg (r:=l) (fun r' e=>by cases e;rfl) ho hc (fun d hd e=>by
  rw [hdf ds hds] at hd
  obtain ⟨D,e1,e2,_⟩:=hm d hd
  rw [e1] at e
  have:D=l:=by simpa using e
  have:=(Array.getElem?_eq_some_iff.1 e2).1
  omega)
 have hne:∀b i v,w.cell? ⟨b,i,none⟩=some v→b≠l∧(w.putObj l o').cell? ⟨b,i,none⟩=some v:=fun b i v h4=>by
  have Fe:b≠l:=fun e=>by subst e;rw [lR ho hc] at h4;simp at h4
  exact ⟨Fe,(World.cell?_of_block (w:=w) (a:=⟨b,i,none⟩) (World.putObj_heap_other Fe)).trans h4⟩
 refine ⟨_,bk,I2,hb.grown hg (Nat.le_trans zP hb.size) (fun k e=>by cases e;exact Nat.le_trans zP hl),fun b o hlt h=>hp b o hlt h.1,gq.grown hg (fun r e=>by cases e;exact hl),fo,fun b i v h1 h2=> ?_,hdf,fun b i h=> ?_⟩
 · obtain ⟨h3,h4⟩:=hkc b i v h1 h2
   obtain ⟨h5,h6⟩:=hne b i v h4
   exact ⟨⟨h3,h5⟩,h6⟩
 · obtain ⟨h3,v,h4⟩:=L5 b i h
   obtain ⟨h5,h6⟩:=hne b i v h4
   exact ⟨⟨h3,h5⟩,v,h6⟩
theorem sH {w:World} {b o:Nat} {v:Value} (h:w.cell? ⟨b,o,none⟩=some v):b<w.heap.size:=by
 unfold World.cell? at h
 cases e:w.heap[b]? with
 |none=>simp [e] at h
 |some ob=>exact (Array.getElem?_eq_some_iff.1 e).1
theorem gD.grow {Pi:aD} (zP:base≤w0.heap.size) (G:gD base w0 bg N bf Pi st a w) (hg:w.grownBy w' none):gD base w0 bg N bf (Pi.plus w w') st a w':=by
 obtain ⟨Pr,bk,I,hb,hp,gq,fo,hkc,hdf,L5⟩:=G
 have iO:Below w.heap.size w w':=(Below.refl _ w).grown hg (Nat.le_refl _) (by simp)
 obtain ⟨aC,dS⟩:∃aC:aD,∀b o,aC b o↔(Pr b o∨(w.heap.size≤b∧b<w'.heap.size)):=⟨fun b o=>_,fun _ _=>Iff.rfl⟩
 have hf:Fw w Pr w' aC:=⟨iO,fun b o h=>(dS b o).2 (.inl h),fun b o hb h=>((dS b o).1 h).resolve_right (fun h=>by omega),fun b o h=>((dS b o).1 h).elim (fun h=>Nat.lt_of_lt_of_le (I.bP b o h) hg.size) (fun h=>h.2)⟩
 have hcell:∀b o v,w.cell? ⟨b,o,none⟩=some v→w'.cell? ⟨b,o,none⟩=some v:=fun b o v h=>(iO.cell (p:=⟨b,o,none⟩) (sH h)).trans h
 refine ⟨aC,bk,I.fw hf,hb.grown hg (Nat.le_trans zP hb.size) (by simp),fun b o hlt h=> ?_,gq.grown hg (by simp),fo,fun b o v h1 h2=> ?_,hdf,fun b o h=> ?_⟩
 · rcases (dS b o).1 h with h|h
   · exact hp b o hlt h
   · have:=hb.size;omega
 · obtain ⟨h3,h4⟩:=hkc b o v h1 h2
   exact ⟨(dS b o).2 (.inl h3),hcell b o v h4⟩
 · rcases h with h|⟨h1,v,h2⟩
   · obtain ⟨h3,v,h4⟩:=L5 b o h
     exact ⟨(dS b o).2 (.inl h3),v,hcell b o v h4⟩
   · exact ⟨(dS b o).2 (.inr ⟨h1,sH h2⟩),v,h2⟩
theorem gD.less {Pi Qf:aD} (h:gD base w0 bg N bf Pi st a w) (k:∀b o,Qf b o→Pi b o):gD base w0 bg N bf Qf st a w:=by
 obtain ⟨Pr,bk,I,h1,h2,h3,h4,h5,h6,h7⟩:=h
 exact ⟨Pr,bk,I,h1,h2,h3,h4,h5,h6,fun b o h=>h7 b o (k b o h)⟩
theorem AR {it:Nat→List PV→Option (Nat×List (List PV))} (hI:oG P it) (h1:2≤m) {fA body:Code} {fa fb:St→Option (Xt×St)} (hA:Part P base N (m - 1 - 1) ks fA fa) (hB:Part P base N (m - 1 - 1) ks body fb)
  (G:Good base w0 bg N bf st a w) (hz:bf.ds=none) (fo:∀d,ks.contains d=true→bf.k d=none) {g:Operand} {f:Nat} {caps:List PV} {ps:Array Nat} {xs:List (List PV)} (hps:∀p∈ps.toList,p<N) (hg:st.pv g=some (.fn f caps)) (hit:it f caps=some (ps.size,xs))
  {x:Xt} {st':St} (h:fP fa fb (st.iC ks) ps.toList xs (st.iC ks)=some (x,st')) {Q:Exit→Act→World→Prop} (hQ:∀a' w',Good base w0 bg N bf st' a' w'→Q (toExit x) a' w'):
  (Code.rangeFunc g ps fA body).wpIn Fence.wide m P Q a w:=by
 obtain ⟨Pr,bk,I,hb,hp,gq,DC,hkc,_⟩:=G
 have Is:=I.iC ks
 have S:=r9 st ks
 generalize st.iC ks=cV at h Is S
 obtain ⟨hbody,Sb⟩:=hI f caps ps.size xs hit
 have hfn:=iH I hg
 obtain ⟨vs,tE,hrc⟩:∃vs:List Value,a.eval g= .func (.func f) #[] vs.toArray∧aT w Pr caps vs:=by
  cases hv:a.eval g<;>rw [hv] at hfn<;>cases hfn
  exact ⟨_,rfl,by assumption⟩
 obtain ⟨enc,Mk,Mn⟩:=Sb vs w Pr I.bP hrc
 have Wy:∀args w,(callFunc f args).run P w= .ok (.enter f args) w:=by
  obtain ⟨fn,c,e1,e2,e3⟩:=hbody
  intro args w
  simp [callFunc,program,Sem.run,e1,e2,show ¬fn.name= "runtime.NumGoroutine" from by simpa using e3]
 obtain ⟨uu,hL⟩:∃uu:eM,uu=⟨fun j=>if ks.contains j then none else some (bk (.bx j)),some a.defers⟩:=⟨_,rfl⟩
 obtain ⟨xh,hR⟩:∃xh:eM,xh=⟨fun j=>if ks.contains j then none else some (bk (.bx j)),some []⟩:=⟨_,rfl⟩
 have Qr:∀d,ks.contains d=true→xh.k d=none:=fun d hd=>by rw [hR];show (if ks.contains d=true then none else some _)=none;rw [if_pos hd]
 have DL:∀(gH:Key→Nat) (dd:Option (List Deferred)),(∀k,ks.contains k=false→gH (.bx k)=bk (.bx k))→∀k b,(⟨fun j=>if ks.contains j then none else some (bk (.bx j)),dd⟩:eM).k k=some b→gH (.bx k)=b:=by
  intro gH dd h2 k b e
  simp only at e
  split at e
  · simp at e
  · rename_i hc
    rw [h2 k (by simpa using hc)];exact Option.some.inj e
 have yT:∀(gH:Key→Nat) (dd:Option (List Deferred)),(∀k b,(⟨fun j=>if ks.contains j then none else some (bk (.bx j)),dd⟩:eM).k k=some b→gH (.bx k)=b)→∀k,ks.contains k=false→gH (.bx k)=bk (.bx k):=by
  intro gH dd h2 k hc
  exact h2 k _ (by show (if ks.contains k=true then none else some _)=some _;rw [if_neg (by rw [hc];simp)])
 have hM:∀d∈a.defers,Mark base w d:=I.defers.1
 have RP:∀A B:World,(∃cur,fP fa fb cV ps.toList (xs.drop 0) cur=some (x,st')∧gD base w Pr N uu (Pr.here w) (cV.after cur) a A)→A.grownBy B none→∃cur,fP fa fb cV ps.toList (xs.drop 0) cur=some (x,st')∧gD base w Pr N uu (Pr.here w) (cV.after cur) a B:=
  fun A B ⟨cur,e,G2⟩ oS=>⟨cur,e,(G2.grow I.hb oS).less fun b o h=> .inl h⟩
 refine sy (N:=xs.length) (enc:=fun i=>(enc i).toArray) (by omega) tE Wy (Mn (m - 1) (by omega))
  (fun k hk=>by
   obtain ⟨y,hy⟩:∃y,xs[k]? =some y:=⟨_,List.getElem?_eq_getElem hk⟩
   simpa using (Mk k y hy).1)
  (fun k Pi W=>∃cur,fP fa fb cV ps.toList (xs.drop k) cur=some (x,st')∧gD base w Pr N uu Pi (cV.after cur) a W)
  (fun c W=>c=Na x∧x≠ .normal∧Good base w Pr N uu st' a W)
  (fun k Pi W l o o' ⟨cur,e,G2⟩ hl ho hc _=>⟨cur,e,G2.nR (by rw [hL]) hM I.hb hl ho hc⟩)
  (fun c W l o o' ⟨e1,e2,G2⟩ hl ho hc _=>⟨e1,e2,G2.own (by rw [hL]) hM I.hb (grownBy_putObj' W l o') (fun r e=>by cases e;exact ⟨hl,o,ho,hc⟩)⟩)
  (fun k Pi A B ⟨cur,e,G2⟩ oS=>⟨cur,e,G2.grow I.hb oS⟩)
  RP
  (fun c A B ⟨e1,e2,G2⟩ oS=>⟨e1,e2,G2.own (by rw [hL]) hM I.hb oS (by simp)⟩)
  ⟨cV,by simpa using h, ?_⟩
  (fun k Pi a2 W=>∃s e s2,fb s=some (e,s2)∧((e= .normal∧fP fa fb cV ps.toList (xs.drop (k+1)) s2=some (x,st'))∨(e≠ .normal∧x=e∧st'=cV.after s2))∧gD base w Pr N xh Pi s a2 W)
  (fun k Pi a2 W l o o' ⟨s,e,s2,h3,h4,G2⟩ hl ho hc _=>⟨s,e,s2,h3,h4,G2.nR (by rw [hR]) (by simp) I.hb hl ho hc⟩)
  ?_ ?_ ?_ ?_
 · exact ⟨Pr,bk,za Is S Is (fun b o v h1 h2=>⟨h1,h2⟩) (fun _ _=>rfl) (KO.refl _),Below.refl _ _,fun _ _ _ h=>h,KO.refl _,by rw [hL];exact DL bk _ (fun _ _=>rfl),fun _ _ _ h1 h2=>⟨h1,h2⟩,fun ds e=>by rw [hL] at e;simpa using e,fun b o h=>h⟩
 ·
    rintro l k Pi W K ⟨cur,fG,tn,tu,IW,zO,vg,rK,lG,uh,Jb,zL⟩ hk hK
    obtain ⟨y,hy⟩:∃y,xs[k]? =some y:=⟨_,List.getElem?_eq_getElem hk⟩
    have OX:xs.drop k=y::xs.drop (k+1):=by
     rw [List.drop_eq_getElem_cons hk]
     congr 1
     rw [List.getElem?_eq_getElem hk] at hy
     exact Option.some.inj hy
    rw [OX] at fG
    simp only [fP,Option.bind_eq_some_iff] at fG
    obtain ⟨⟨xa,s⟩,ha,fG⟩:=fG
    cases xa with
    |exit id=>simp at fG
    |ret=>simp at fG
    |normal=>
     simp only [Option.bind_eq_some_iff] at fG
     obtain ⟨⟨e,s2⟩,zU,fG⟩:=fG
     have I0:=IW.marks (ds:=[]) (by simp) List.nodup_nil
     obtain ⟨gH,I2,cF⟩:=vN ps.toList y (enc k) _ _ tu I0 ((Mk k y hy).2 W tn) hps
     rw [IU]
     have hun:=yT tu _ (by rw [hL] at lG;exact lG)
     refine hA l W tn xh _ _ W .normal s Qr ⟨tn,gH,I2,Below.refl _ _,fun _ _ _ h=>h,KO.refl _,by rw [hR];exact DL gH _ (fun j hj=>(cF j).trans (hun j hj)),fun _ _ _ h1 h2=>⟨h1,h2⟩,fun ds e=>by rw [hR] at e;simpa using e⟩ ha _ fun a2 W2 G2=> ?_
     obtain ⟨lN,Ey,I3,oQ,ME,rJ,yJ,ug,Qx⟩:=G2
     refine hK a2 W2 (rJ.from _) (fun b o v h1 h2=>(ug b o v (zL b o h1).1 h2).2) ⟨s,e,s2,zU, ?_,lN,Ey,I3,zO.trans oQ,fun b o hlt h=>vg b o hlt (ME b o hlt h),rK.trans rJ,yJ,fun b o v h1 h2=> ?_,Qx,fun b o h1=> ?_⟩
     · cases e with
       |normal=>exact .inl ⟨rfl,fG⟩
       |exit id=>simp only [Option.some.injEq,Prod.mk.injEq] at fG;exact .inr ⟨by simp,fG.1.symm,fG.2.symm⟩
       |ret=>simp only [Option.some.injEq,Prod.mk.injEq] at fG;exact .inr ⟨by simp,fG.1.symm,fG.2.symm⟩
     · obtain ⟨h3,h4⟩:=uh b o v h1 h2
       exact ug b o v h3 h4
     · obtain ⟨h3,v,h4⟩:=zL b o h1
       obtain ⟨h5,h6⟩:=ug b o v h3 h4
       exact ⟨h5,v,h6⟩
 ·
    rintro l k Pi a2 W ⟨s,e,s2,zU,Dx,tn,tu,IW,zO,vg,rK,lG,uh,Jb,zL⟩ hk
    refine hB l W tn xh s a2 W e s2 Qr ⟨tn,tu,IW,Below.refl _ _,fun _ _ _ h=>h,KO.refl _,lG,fun _ _ _ h1 h2=>⟨h1,h2⟩,Jb⟩ zU _ fun a3 W2 G2=> ?_
    obtain ⟨lN,Ey,I3,oQ,ME,rJ,yJ,ug,Qx⟩:=G2
    have w4:Carry w Pr W2 lN:=fun b o v h1 h2=>by
     obtain ⟨h3,h4⟩:=uh b o v h1 h2
     exact ug b o v h3 h4
    have hun:=yT Ey _ (by rw [hR] at yJ;exact yJ)
    have Ia:=za Is S I3 w4 hun (rK.trans rJ)
    have Ga:gD base w Pr N uu Pi (cV.after s2) a W2:=⟨lN,Ey,Ia,zO.trans oQ,fun b o hlt h=>vg b o hlt (ME b o hlt h),rK.trans rJ,by rw [hL];exact DL Ey _ hun,w4,fun ds e=>by rw [hL] at e;simpa using e,fun b o h1=>by
     obtain ⟨h3,v,h4⟩:=zL b o h1
     obtain ⟨h5,h6⟩:=ug b o v h3 h4
     exact ⟨h5,v,h6⟩⟩
    have hkp:iD Pi W W2:=fun b o v h1 h2=>(ug b o v (zL b o h1).1 h2).2
    cases e with
    |normal=>
     rcases Dx with ⟨_,hc⟩|⟨hne,_⟩
     · exact ⟨rJ.from _,hkp,s2,hc,Ga⟩
     · exact absurd rfl hne
    |exit id=>
     rcases Dx with ⟨hne,_⟩|⟨_,hx,hs⟩
     · simp at hne
     · exact ⟨rJ.from _,by rw [hx];rfl,by rw [hx];simp,by rw [hs];exact Ga.good⟩
    |ret=>
     rcases Dx with ⟨hne,_⟩|⟨_,hx,hs⟩
     · simp at hne
     · exact ⟨rJ.from _,by rw [hx];rfl,by rw [hx];simp,by rw [hs];exact Ga.good⟩
 ·
    rintro D Pi W hD ⟨cur,fG,tn,tu,IW,zO,vg,rK,lG,uh,Jb,_⟩ LX
    have he:xs.drop xs.length=[]:=by simp
    rw [he] at fG
    simp only [fP,Option.some.injEq,Prod.mk.injEq] at fG
    obtain ⟨rfl,rfl⟩:=fG
    have hun:=yT tu _ (by rw [hL] at lG;exact lG)
    refine hQ _ _ ⟨tn,tu,IW.marks (fun d hd=> ?_) ?_,hb.trans zO,fun b o hlt h=>hp b o hlt (vg b o hlt h),gq.trans rK,fun k b e=> ?_,fun b o v h1 h2=> ?_,fun ds e=>by rw [hz] at e;simp at e⟩
    · rcases List.mem_cons.1 hd with rfl|hd
      · exact ⟨D,rfl,LX,Nat.le_trans I.hb hD⟩
      · exact IW.defers.1 d hd
    · refine List.nodup_cons.2 ⟨fun hd=> ?_,IW.defers.2⟩
      obtain ⟨D',e1,e2,_⟩:=hM _ hd
      have e3:D=D':=by simpa using e1
      have:=(Array.getElem?_eq_some_iff.1 e2).1
      omega
    · have hc:ks.contains k=false:=by
        cases hc:ks.contains k with
        |false=>rfl
        |true=>rw [fo k hc] at e;simp at e
      exact (hun k hc).trans (DC k b e)
    · obtain ⟨h3,h4⟩:=hkc b o v h1 h2
      exact uh b o v h3 h4
 ·
    rintro D c W hD ⟨rfl,hx,tn,tu,IW,zO,vg,rK,lG,uh,Jb⟩ LX
    have hun:=yT tu _ (by rw [hL] at lG;exact lG)
    have G2:Good base w0 bg N bf st' { a with defers:={ target:= .collected D,args:= #[]}::a.defers} W:=by
     refine ⟨tn,tu,IW.marks (fun d hd=> ?_) ?_,hb.trans zO,fun b o hlt h=>hp b o hlt (vg b o hlt h),gq.trans rK,fun k b e=> ?_,fun b o v h1 h2=> ?_,fun ds e=>by rw [hz] at e;simp at e⟩
     · rcases List.mem_cons.1 hd with rfl|hd
       · exact ⟨D,rfl,LX,Nat.le_trans I.hb hD⟩
       · exact IW.defers.1 d hd
     · refine List.nodup_cons.2 ⟨fun hd=> ?_,IW.defers.2⟩
       obtain ⟨D',e1,e2,_⟩:=hM _ hd
       have e3:D=D':=by simpa using e1
       have:=(Array.getElem?_eq_some_iff.1 e2).1
       omega
     · have hc:ks.contains k=false:=by
         cases hc:ks.contains k with
         |false=>rfl
         |true=>rw [fo k hc] at e;simp at e
       exact (hun k hc).trans (DC k b e)
     · obtain ⟨h3,h4⟩:=hkc b o v h1 h2
       exact uh b o v h3 h4
    have hq:=hQ _ _ G2
    cases x with
    |normal=>exact absurd rfl hx
    |exit id=>exact wpIn_exit hq
    |ret=>exact wpIn_ret hq
end
end Go.Proofs.YtibbgjafjhcemaaDoor.Cul
namespace Go.Proofs.YtibbgjafjhcemaaDoor.Cul
open Go Go.RowKit
section
variable {P:Program} {base:Nat} {w w0:World} {Pr bg:aD} {bk:Key→Nat} {st:St} {a:Act} {N:Nat} {bf:eM}
theorem uv {p:PV} {v:Value} (h:eL p=true) (k:Rp w Pr p v) {w':World} {aC:aD}:Rp w' aC p v:=by
 unfold eL at h
 split at h
 · cases k with|an hr=>cases hr;exact .an .nil
 · obtain ⟨u,hu⟩:=Option.isSome_iff_exists.1 h
   exact sr hu k
theorem yc:∀{cs:List PV} {vs:List Value},cs.all eL=true→aT w Pr cs vs→∀{w':World} {aC:aD},aT w' aC cs vs
 |_,_,_, .nil,_,_=> .nil
 |_,_,h, .cons h1 hs,_,_=>by
  simp only [List.all_cons,Bool.and_eq_true] at h
  exact .cons (uv h.1 h1) (yc h.2 hs)
theorem uk {α:Type} {f:Nat×α→Bool}:∀{l:List (Nat×α)} {t:Nat} {v:α},l.all f=true→look l t=some v→f (t,v)=true
 |[],t,v,_,h=>by simp [look] at h
 |(k,x)::l,t,v,ha,h=>by
  simp only [List.all_cons,Bool.and_eq_true] at ha
  simp only [look] at h
  split at h
  · rename_i e;simp only [Option.some.injEq] at h;subst e h;exact ha.1
  · exact uk ha.2 h
theorem Inv.oE (I:Inv base w Pr bk st a N) (t:Nat):∃aC aS,Inv base w aC aS (st.qx t) a N∧(∀b o,aC b o→Pr b o)∧(∀b o,b<base→Pr b o→aC b o)∧∀k,k≠gw t→aS (.bx k)=bk (.bx k):=by
 unfold St.qx
 split
 · rename_i sz n cs z heq hz
   split
   · rename_i hc
     simp only [Bool.and_eq_true,decide_eq_true_eq,Option.isNone_iff_eq_none] at hc
     obtain ⟨⟨⟨⟨rfl,zX⟩,hal⟩,rG⟩,hnew⟩:=hc
     obtain ⟨o,n',cap,cs',e1,e2,hroom,rfl⟩:=I.gL t _ hz
     rw [heq] at e1
     simp only [Option.some.injEq,AV.pv.injEq,PV.sl.injEq] at e1
     obtain ⟨_,rfl,rfl⟩:=e1
     have bY:live st (.sx t):= .inr ⟨_,hz⟩
     have hown:=I.own _ bY
     obtain ⟨v,cy,dY⟩:=I.slots t _ heq
     rw [e2] at cy
     simp only [Option.some.injEq] at cy
     subst cy
     have nq:Rp w Pr (.sl z n cs) (.slice (some ⟨bk (.sx t),0,none⟩) n cap):=dY
     obtain ⟨c,T,hb,hsz⟩:=hroom.there
     have nk:∀s av,s≠t→look st.sl s=some av→sE av=true∧eV (gw t) av=true:=by
      intro s av hs h
      have:=uk (f:=fun x=>sE x.2&&eV (gw t) x.2) (l:=bL st.sl t) (t:=s) (v:=av) hal (by rw [bI,if_neg hs];exact h)
      simpa using this
     have dF:∀k aK,look st.bx k=some aK→aK.all eL=true∧k≠gw t:=by
      intro k aK h
      exact ⟨uk (f:=fun x=>x.2.all eL) rG h,fun e=>by subst e;rw [hnew] at h;simp at h⟩
     obtain ⟨aC,dS⟩:∃aC:aD,∀b o,aC b o↔(Pr b o∧b≠bk (.sx t)):=⟨fun b o=>_,fun _ _=>Iff.rfl⟩
     obtain ⟨aS,wX,wY⟩:∃aS:Key→Nat,aS (.bx (gw t))=bk (.sx t)∧∀x,x≠ .bx (gw t)→aS x=bk x:=
      ⟨fun x=>if x= .bx (gw t) then bk (.sx t) else bk x,if_pos rfl,fun x h=>if_neg h⟩
     have wZ:∀k,k≠gw t→aS (.bx k)=bk (.bx k):=fun k h=>wY _ (fun e=>h (by injection e))
     have jS:∀x,live { sl:=(t,AV.bs (gw t) 0 z n)::bL st.sl t,bx:=(gw t,cs)::st.bx,gr:=[],tg:=[]} x→x= .bx (gw t)∨(live st x∧x≠ .bx (gw t)∧x≠ .sx t):=by
      intro x hx
      cases x with
      |bx k=>
       obtain ⟨aK,h⟩:=hx
       simp only [look] at h
       split at h
       · rename_i e;exact .inl (by rw [e])
       · rename_i e;exact .inr ⟨⟨aK,h⟩,fun e2=>e (by injection e2 with e3;exact e3.symm),by simp⟩
      |sx s=>
       rcases hx with ⟨sz',m,c2,h⟩|⟨z2,h⟩
       · simp only [look,bI] at h
         split at h
         · simp at h
         · rename_i e
           have hst:s≠t:=fun e2=>e e2.symm
           rw [if_neg hst] at h
           have:=(nk s _ hst h).1
           simp [sE] at this
       · simp [aQ] at h
      |cx k o=>obtain ⟨z2,h⟩:=hx;simp [aQ] at h
     have I9:∀k aK,look st.bx k=some aK→bk (.bx k)≠bk (.sx t):=fun k aK h e=>by
      have:=I.inj (.bx k) (.sx t) ⟨aK,h⟩ bY e
      simp at this
     refine ⟨aC,aS,⟨I.size,I.defers,I.hb,fun b o h=>I.bP b o ((dS b o).1 h).1, ?_, ?_, ?_, ?_, ?_, ?_, ?_⟩,fun b o h=>((dS b o).1 h).1,fun b o hlt h=>(dS b o).2 ⟨h,fun e=>by rw [e] at hlt;omega⟩,wZ⟩
     · intro s av h
       simp only [look,bI] at h
       split at h
       · rename_i e
         subst e
         simp only [Option.some.injEq] at h;subst h
         refine ⟨_,e2, ?_⟩
         have hlen:cs.length=n* z:=by cases nq with|sl hr h1 hl=>exact hl
         exact ⟨0,cap,cs,c,T,by rw [wX], .inl rfl,by simp [look],by omega,hroom.hz,hroom.le,by rw [wX];exact hb,hsz⟩
       · rename_i e
         have hst:s≠t:=fun e2=>e e2.symm
         rw [if_neg hst] at h
         obtain ⟨ha,hnp⟩:=nk s av hst h
         obtain ⟨u,lZ,gu⟩:=I.slots s av h
         refine ⟨u,lZ, ?_⟩
         have bs:∀{k off sz n u},fZ st w bk k off sz n u→k≠gw t→fZ { sl:=(t,AV.bs (gw t) 0 z n)::bL st.sl t,bx:=(gw t,cs)::st.bx,gr:=[],tg:=[]} w aS k off sz n u:=by
          intro k off sz n u h hk
          obtain ⟨o,cap,aK,c2,T2,f1,f2,f3,f4,f5,f6,f7,f8⟩:=h
          exact ⟨o,cap,aK,c2,T2,by rw [wZ k hk];exact f1,f2,by simp only [look];rw [if_neg (fun e=>hk e.symm)];exact f3,f4,f5,f6,by rw [wZ k hk];exact f7,f8⟩
         cases av with
         |pv p=>exact uv ha gu
         |bp k off=>
          have hk:k≠gw t:=by simpa [eV] using hnp
          show u= .pointer (some ⟨aS (.bx k),off,none⟩)
          rw [wZ k hk];exact gu
         |bs k off sz n=>exact bs gu (by simpa [eV] using hnp)
         |mv f k off sz n=>
          obtain ⟨y,f1,f2⟩:=gu
          exact ⟨y,f1,bs f2 (by simpa [eV] using hnp)⟩
         |dead=>trivial
         |cl f caps=>
          obtain ⟨us,f1,f2,f3⟩:=gu
          refine ⟨us,f1,f2,fun i cp x hi hx=> ?_⟩
          have g:=f3 i cp x hi hx
          have hm:cp∈caps:=List.mem_of_getElem? hi
          have g1:=List.all_eq_true.1 ha cp hm
          have g2:=List.all_eq_true.1 hnp cp hm
          cases cp with
          |pv p=>exact uv g1 g
          |bp k off=>
           have hk:k≠gw t:=by simpa [zk] using g2
           show x= .pointer (some ⟨aS (.bx k),off,none⟩)
           rw [wZ k hk];exact g
         |_=>simp [sE] at ha
     · intro x hx
       rcases jS x hx with rfl|⟨h1,h2,_⟩
       · rw [wX];exact hown
       · rw [wY x h2];exact I.own x h1
     · intro x y hx hy e
       rcases jS x hx with rfl|⟨h1,h2,h3⟩
       · rcases jS y hy with rfl|⟨k1,k2,k3⟩
         · rfl
         · rw [wX,wY y k2] at e
           exact absurd (I.inj (.sx t) y bY k1 e).symm k3
       · rcases jS y hy with rfl|⟨k1,k2,k3⟩
         · rw [wX,wY x h2] at e
           exact absurd (I.inj x (.sx t) h1 bY e) h3
         · rw [wY x h2,wY y k2] at e
           exact I.inj x y h1 k1 e
     · intro k aK h
       simp only [look] at h
       split at h
       · rename_i e
         subst e
         simp only [Option.some.injEq] at h;subst h
         rw [wX]
         cases nq with
         |sl hr h1 hl hn hc hp=>exact ⟨⟨T,c,_,hb,nJ hb hc,nu zX hr,h1⟩,fun o h=>((dS _ _).1 h).2 rfl⟩
       · rename_i e
         have hk:k≠gw t:=fun e2=>e e2.symm
         obtain ⟨⟨T2,c2,vs,f1,f2,f3,f4⟩,f5⟩:=I.boxes k aK h
         rw [wZ k hk]
         exact ⟨⟨T2,c2,vs,f1,f2,yc (dF k aK h).1 f3,f4⟩,fun o h=>f5 o ((dS _ _).1 h).1⟩
     · intro s z2 h;simp [aQ] at h
     · intro k i z2 h;simp [aQ] at h
     · intro s q h;simp [look] at h
   · exact ⟨Pr,bk,I,fun _ _ h=>h,fun _ _ _ h=>h,fun _ _=>rfl⟩
 · exact ⟨Pr,bk,I,fun _ _ h=>h,fun _ _ _ h=>h,fun _ _=>rfl⟩
structure Dd (base:Nat) (bg:aD) (bf:eM):Prop where
 bf:∀t,bf.k (gw t)=none
 low:∀b o,bg b o→b<base
theorem Good.JP (H:Dd base bg bf):∀(l:List Nat) {st:St},Good base w0 bg N bf st a w→Good base w0 bg N bf (l.foldl St.qx st) a w
 |[],_,h=>h
 |t::l,st,h=>by
  refine Good.JP H l ?_
  obtain ⟨Pr,bk,I,hb,hp,ho,fo,hkc,hdf⟩:=h
  obtain ⟨aC,aS,I',h1,h2,h3⟩:=I.oE t
  refine ⟨aC,aS,I',hb,fun b o hlt h=>hp b o hlt (h1 b o h),ho,fun k b e=> ?_,fun b o v k1 k2=> ?_,hdf⟩
  · have hk:k≠gw t:=fun e2=>by subst e2;rw [H.bf t] at e;simp at e
    exact (h3 k hk).trans (fo k b e)
  · obtain ⟨k3,k4⟩:=hkc b o v k1 k2
    exact ⟨h2 b o (H.low b o k1) k3,k4⟩
theorem Good.nK (n:eE) (H:n.oE.isEmpty=true∨Dd base bg bf) (h:Good base w0 bg N bf st a w):Good base w0 bg N bf (st.nK n) a w:=by
 unfold St.nK
 rcases H with H|H
 · rw [List.isEmpty_iff.1 H]
   exact Good.wv _ h
 · exact Good.wv _ (Good.JP H _ h)
end
end Go.Proofs.YtibbgjafjhcemaaDoor.Cul
namespace Go.Proofs.YtibbgjafjhcemaaDoor.Cul
open Go Go.RowKit
section
variable {P:Program} {base:Nat} {w w0:World} {Pr bg:aD} {bk:Key→Nat} {st st':St} {a:Act} {N:Nat} {ops:Array Oper} {call:Cl} {bf:eM}
theorem Il (I:Inv base w Pr bk st a N) {o:Oper} {m:Made} (hk:mK o.op=true) (h:quiet P call o st=some m):∃v,∀w':World,(execOp a.eval o).run P w'= .ok (.value v) w':=by
 cases ho:o.op with
 |move x=>exact ⟨a.eval x,fun w'=>by simp [execOp,ho]⟩
 |binOp op t x y u=>
  simp only [quiet,ho,Option.bind_eq_some_iff,dL,Option.map_eq_some_iff] at h
  obtain ⟨p,hp,q,hq,p2,h,_⟩:=h
  simp only [cQ,Option.bind_eq_some_iff] at h
  obtain ⟨v,hv,_⟩:=h
  refine ⟨v,fun w'=> ?_⟩
  simp only [execOp,ho,ff I hp,ff I hq]
  exact cW (ke P _ _ hv w')
 |extract x i=>
  simp only [quiet,ho] at h
  split at h
  · rename_i ps heq
    simp only [dL,Option.map_eq_some_iff] at h
    obtain ⟨p,hp,rfl⟩:=h
    have hv:=ei I heq
    generalize hx:a.eval x=v at hv
    cases hv with
    |an hr=>
     obtain ⟨v,cy,dY⟩:=hr.get i p hp
     refine ⟨v,fun w'=> ?_⟩
     simp only [execOp,ho,hx]
     refine cW ?_
     simp [Instr.extract,cy]
  · rename_i k off sz n rest heq
    obtain ⟨u,us,hx,hu,hr⟩:=I5 I heq
    split at h
    · refine ⟨u,fun w'=> ?_⟩
      simp only [execOp,ho,hx]
      refine cW ?_
      simp [Instr.extract]
    · rename_i i
      simp only [dL,Option.map_eq_some_iff] at h
      obtain ⟨p,hp,rfl⟩:=h
      obtain ⟨v,cy,dY⟩:=hr.get i p hp
      refine ⟨v,fun w'=> ?_⟩
      simp only [execOp,ho,hx]
      refine cW ?_
      simp [Instr.extract,cy]
  · simp at h
 |indexAddr t x i=>
  simp only [quiet,ho] at h
  rw [Option.bind_eq_some_iff] at h
  obtain ⟨n,hn,h⟩:=h
  obtain ⟨k,hk⟩:=int_eq I hn
  have he:∀v,(∀w':World,(Instr.indexAt t (a.eval x) (.int k n)).run P w'= .ok v w')→∃v,∀w':World,(execOp a.eval o).run P w'= .ok (.value v) w':=fun v hv=>⟨v,fun w'=>by
   simp only [execOp,ho,hk];exact cW (hv w')⟩
  split at h
  · rename_i len e hu
    rw [Option.bind_eq_some_iff] at h
    obtain ⟨s,hs,h⟩:=h
    split at h
    · rename_i hb
      split at h
      · rename_i k' o' heq
        exact he _ (fun w'=>by rw [pW I heq];exact run_indexAt_array hu hs k n _ _ hb.1 hb.2)
      · rename_i cs heq
        have hv:=ei I heq
        generalize hx:a.eval x=v at hv
        cases hv with
        |el hr h1 hc hp=>exact he _ (fun w'=>by rw [hx];exact run_indexAt_array hu hs k n _ _ hb.1 hb.2)
      · simp at h
    · simp at h
  · rename_i e hu
    rw [Option.bind_eq_some_iff] at h
    obtain ⟨s,hs,h⟩:=h
    split at h
    · rename_i sz len cs heq
      split at h
      · rename_i hb
        obtain ⟨rfl,hb0,eJ⟩:=hb
        have hv:=ei I heq
        generalize hx:a.eval x=v at hv
        cases hv with
        |sl hr h1 hl hn hc hp=>exact he _ (fun w'=>by rw [hx];exact run_indexAt_slice hu hs k n _ _ _ _ hb0 eJ)
        |mE=>omega
      · simp at h
    · rename_i u heq
      split at h
      · rename_i sz len cs hl
        split at h
        · rename_i hb
          obtain ⟨rfl,hb0,eJ⟩:=hb
          obtain ⟨h1,h2⟩:=Dq I heq
          obtain ⟨v,cy,o',cap,vs,rfl,dY⟩:=I.slots u _ hl
          rw [cy] at h1
          have hx:a.eval x=_:=(Option.some.inj h1).symm
          exact he _ (fun w'=>by rw [hx];exact run_indexAt_slice hu hs k n _ _ _ _ hb0 eJ)
        · simp at h
      · simp at h
    · rename_i k' off sz len heq
      split at h
      · rename_i hb
        obtain ⟨rfl,hb0,eJ⟩:=hb
        obtain ⟨o',cap,cs,c,T,hx,h0,_⟩:=uU I heq
        exact he _ (fun w'=>by rw [hx];exact run_indexAt_slice hu hs k n _ _ _ _ hb0 eJ)
      · simp at h
    · simp at h
  · simp at h
 |_=>simp [ho,mK] at hk
theorem F5 {o:Oper} (hk:mK o.op=true) (h:iK P call o st=some st'):∃m,quiet P call o st=some m:=by
 have hc:iL st o=none:=by
  cases ho:o.op<;>simp [ho,mK] at hk<;>simp [iL,ho]
 have hq:gO o.op=true:=by
  cases ho:o.op<;>simp [ho,mK] at hk<;>rfl
 unfold iK at h
 rw [hc] at h
 simp only [hq,if_true,Option.map_eq_some_iff] at h
 obtain ⟨m,hm,_⟩:=h
 exact ⟨m,hm⟩
theorem Eh {listed:Array Bool} {i:Nat} (h:yR ops listed=some i):Region.noSelect ops=true∧i∈Region.ready .any ops listed∧Region.free .any ops listed i=true∧∃o,ops[i]? =some o∧mK o.op=true:=by
 unfold yR at h
 split at h
 · rename_i hs
   have h1:=List.find?_some h
   have h2:=List.mem_of_find?_eq_some h
   simp only [Bool.and_eq_true] at h1
   cases ho:ops[i]? with
   |none=>rw [ho] at h1;simp at h1
   |some o=>rw [ho] at h1;exact ⟨hs,h2,h1.2,o,rfl,h1.1⟩
 · simp at h
theorem vM {o:Oper} (hk:mK o.op=true) (w:World):o.about P w a.eval=none:=by
 unfold Oper.about
 cases ho:o.op<;>simp [ho,mK] at hk<;>rfl
theorem rZ {F:Fence} (E:mq F) (m:Nat) (hro:F.round=none) (hC:aP P call) {Q:Exit→Act→World→Prop} (L6:∀c a w,¬Q (.panic c) a w) (hN:∀o∈ops.toList,∀d,o.dst=some d→d<N∧bf.k d=none):
  ∀(g:Nat) (listed:Array Bool) (st:St) (a:Act) (w:World) (ls:List St),Good base w0 bg N bf st a w→lF (iK P call) ops g listed st=some ls→(∀s∈ls,∀a' w',Good base w0 bg N bf s a' w'→Q .normal a' w')→wpAnyIn F m P .any ops Q g listed a w
 |0,listed,st,a,w,ls,G,h,hQ=>by
  simp only [lF] at h
  split at h
  · rename_i he
    simp only [Option.some.injEq] at h
    subst h
    exact ⟨List.isEmpty_iff.1 he,hQ st (by simp) a w G⟩
  · simp at h
 |g+1,listed,st,a,w,ls,G,h,hQ=>by
  simp only [lF] at h
  split at h
  · simp at h
  · rename_i he
    split at h
    · rename_i i hi
      simp only [Option.bind_eq_some_iff] at h
      obtain ⟨s1,h1,h2⟩:=h
      obtain ⟨My,hrd,hfree,o,ho,hpk⟩:=Eh hi
      obtain ⟨Pr,bk,I,gM⟩:=G
      have hmem:o∈ops.toList:=List.mem_of_getElem? (i:=i) (by simpa using ho)
      have key:∃v,YieldsFenced P ops o v a∧Good base w0 bg N bf s1 (a.put o.dst v) w:=by
       have hone:=AA (Q:=fun _ _ _=>False) (K:=fun a' w'=>Good base w0 bg N bf s1 a' w') E m hC hN ⟨Pr,bk,I,gM⟩ h1 (fun a' w' G'=>G')
       unfold wpOpIn at hone
       simp only [ho] at hone
       simp only [qZ,Option.bind_eq_some_iff] at h1
       obtain ⟨o2,zZ,b,hb,h1⟩:=h1
       rw [ho] at zZ;cases zZ
       have hw:=j5 (ops:=ops) I hb
       cases b with
       |true=>
        simp only at h1
        obtain ⟨mm,WU⟩:=F5 hpk h1
        obtain ⟨v,hv⟩:=Il I hpk WU
        refine ⟨v,⟨.inl ⟨hw,hv⟩,fun w'=>vM hpk w'⟩, ?_⟩
        rw [if_pos hw] at hone
        have h3:=hone.2
        rw [hro,Oper.semAt_none,hv w] at h3
        exact h3
       |false=>
        rw [if_neg (by rw [hw];simp)] at hone
        exact ⟨undef,⟨.inr ⟨hw,rfl⟩,fun w'=>vM hpk w'⟩,hone.2⟩
      obtain ⟨v,hy,G'⟩:=key
      exact wpAnyIn_take hro ho My hfree (by simpa using hrd) (fun c a w h=>absurd h (L6 _ _ _)) hy (rZ E m hro hC L6 hN g _ s1 _ w ls G' h2 hQ)
    · refine ⟨fun e=>absurd (List.isEmpty_iff.2 e) he,fun i hi=> ?_⟩
      obtain ⟨l,h1,h2⟩:=rD h i hi
      simp only [Option.bind_eq_some_iff] at h1
      obtain ⟨s1,h3,h4⟩:=h1
      exact AA E m hC hN G h3 fun a' w' G'=>rZ E m hro hC L6 hN g _ s1 a' w' l G' h4 fun s hs=>hQ s (h2 s hs)
theorem Ih {F:Fence} (E:mq F) (m:Nat) (hro:F.round=none) (hC:aP P call) (hm:P.follows .mixedOrders=true) {id:Nat} {Q:Exit→Act→World→Prop} {ls:List St} (hok:kD N ops true=true) (tB:∀o∈ops.toList,∀d,o.dst=some d→bf.k d=none) (G:Good base w0 bg N bf st a w) (h:lF (iK P call) ops ops.size (Array.replicate ops.size false) st=some ls)
  (hQ:∀s∈ls,∀a' w',Good base w0 bg N bf s a' w'→Q .normal a' w'):(Code.region id ops true).wpIn F m P Q a w:=by
 simp only [kD,Bool.and_eq_true] at hok
 have hN:∀o∈ops.toList,∀d,o.dst=some d→d<N∧bf.k d=none:=by
  intro o ho d hd
  have:=List.all_eq_true.1 hok.1 o ho
  rw [hd] at this;exact ⟨by simpa using this,tB o ho d hd⟩
 refine Code.wpIn_mono (Q:=fun e a w=>match e with| .panic _=>False|e=>Q e a w) (fun e a w h=>by cases e<;>first|exact h|exact h.elim) ?_
 exact wpIn_region_any hm (rZ E m hro hC (fun c a w h=>h) hN _ _ st a _ ls G.drew h hQ)
end
end Go.Proofs.YtibbgjafjhcemaaDoor.Cul
