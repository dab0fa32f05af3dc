/- Part of a proof by an abstract machine for the program's code: lemmas, without conditions of their own beyond those that each states. (Made smaller by a program: short names, no comments.) -/
import Derived.Test.YtibbgjafjhcemaaDoorRTSG4
set_option linter.unusedVariables false
set_option linter.unusedSimpArgs false
namespace Go.Proofs.YtibbgjafjhcemaaDoor.Cul
open Go Go.RowKit Go.ChangeShapes Go.WideShapes Go.ChangeAt
def PT (P:Program) (C:List Value→Prop) (t:TypeId):Prop:=
 ∀(H:Type) (enc:TypeId×Value→H) (fuel:Nat) (w:World) (base:Nat) (sp:Nat→Bool) (held:Bool) (cs:List Value) (d:DataW H) (ps:List MemPlace),
  DataW.trod enc P w base sp held fuel t cs=some (d,ps)→C cs∧ps=[]∧∀(w':World) (base':Nat) (sp':Nat→Bool) (held':Bool),DataW.trod enc P w' base' sp' held' fuel t cs=some (d,[])
section
variable {P:Program}
theorem Lv {t:TypeId} (ht:P.underlying t=some .bool):PT P (fun cs=>∃b,cs=[.bool b]) t:=by
 intro H enc fuel w base sp held cs d ps h
 cases fuel with
 |zero=>simp [DataW.trod] at h
 |succ fuel=>
  simp only [DataW.trod,ht] at h ⊢
  split at h<;>simp_all
theorem Gc {t:TypeId} (ht:P.underlying t=some .string):PT P (fun cs=>∃s,cs=[.string s]) t:=by
 intro H enc fuel w base sp held cs d ps h
 cases fuel with
 |zero=>simp [DataW.trod] at h
 |succ fuel=>
  simp only [DataW.trod,ht] at h ⊢
  split at h<;>simp_all
theorem Oh {t:TypeId} {k:IntKind} (ht:P.underlying t=some (.int k)):PT P (fun cs=>∃n,cs=[.int k n]) t:=by
 intro H enc fuel w base sp held cs d ps h
 cases fuel with
 |zero=>simp [DataW.trod] at h
 |succ fuel=>
  simp only [DataW.trod,ht] at h ⊢
  split at h<;>simp_all
theorem qg {α H:Type} {f:α→Option (DataW H×List MemPlace)} {g:α→Option (DataW H×List MemPlace)} {Q:α→Prop}:∀(l:List α) (xs:List (DataW H×List MemPlace)),(∀a∈l,∀d ps,f a=some (d,ps)→Q a∧ps=[]∧g a=some (d,[]))→l.mapM f=some xs→(∀a∈l,Q a)∧xs.flatMap (·.2)=[]∧l.mapM g=some xs
 |[],xs,_,h=>by simp at h;subst h;simp
 |a::l,xs,hl,h=>by
  simp only [List.mapM_cons,Option.bind_eq_bind,Option.bind_eq_some_iff,Option.pure_def,Option.some.injEq] at h
  obtain ⟨⟨d,ps⟩,h1,ys,h2,rfl⟩:=h
  obtain ⟨q,rfl,hg⟩:=hl a (by simp) d ps h1
  obtain ⟨q2,e2,oP⟩:=qg l ys (fun b hb=>hl b (by simp [hb])) h2
  refine ⟨fun b hb=> ?_,by simp [e2], ?_⟩
  · rcases List.mem_cons.1 hb with rfl|hb
    · exact q
    · exact q2 b hb
  · simp only [List.mapM_cons,Option.bind_eq_bind,Option.bind_eq_some_iff,Option.pure_def]
    exact ⟨_,hg,ys,oP,rfl⟩
theorem lK {t:TypeId} {fs:Array Field} {C:TypeId→List Value→Prop} (ht:P.underlying t=some (.struct fs)) (hf:∀f∈fs.toList,PT P (C f.type) f.type):
  PT P (fun cs=>cs.length=P.cellsOf t∧∀f∈fs.toList,C f.type ((cs.drop f.offset).take (P.cellsOf f.type))) t:=by
 intro H enc fuel w base sp held cs d ps h
 cases fuel with
 |zero=>simp [DataW.trod] at h
 |succ fuel=>
  simp only [DataW.trod,ht] at h ⊢
  split at h
  · rename_i hl
    simp only [Option.map_eq_some_iff,Prod.mk.injEq] at h
    obtain ⟨xs,hx,rfl,rfl⟩:=h
    have key:=fun (w':World) (base':Nat) (sp':Nat→Bool) (held':Bool)=>qg (Q:=fun f:Field=>C f.type ((cs.drop f.offset).take (P.cellsOf f.type))) (g:=fun f=>DataW.trod enc P w' base' sp' held' fuel f.type ((cs.drop f.offset).take (P.cellsOf f.type))) fs.toList xs (fun f hf' d ps h=>by
     obtain ⟨h1,h2,h3⟩:=hf f hf' H enc fuel w base sp held _ d ps h
     exact ⟨h1,h2,h3 w' base' sp' held'⟩) hx
    refine ⟨⟨hl,(key w base sp held).1⟩,(key w base sp held).2.1,fun w' base' sp' held'=> ?_⟩
    rw [if_pos hl,(key w' base' sp' held').2.2]
    simp [(key w base sp held).2.1]
  · simp at h
theorem IT {t e:TypeId} {n:Nat} {C:List Value→Prop} (ht:P.underlying t=some (.array n e)) (he:PT P C e):
  PT P (fun cs=>cs.length=P.cellsOf t∧∀i∈List.range n,C ((cs.drop (i* P.cellsOf e)).take (P.cellsOf e))) t:=by
 intro H enc fuel w base sp held cs d ps h
 cases fuel with
 |zero=>simp [DataW.trod] at h
 |succ fuel=>
  simp only [DataW.trod,ht] at h ⊢
  split at h
  · rename_i hl
    simp only [Option.map_eq_some_iff,Prod.mk.injEq] at h
    obtain ⟨xs,hx,rfl,rfl⟩:=h
    have key:=fun (w':World) (base':Nat) (sp':Nat→Bool) (held':Bool)=>qg (Q:=fun i:Nat=>C ((cs.drop (i* P.cellsOf e)).take (P.cellsOf e))) (g:=fun i=>DataW.trod enc P w' base' sp' held' fuel e ((cs.drop (i* P.cellsOf e)).take (P.cellsOf e))) (List.range n) xs (fun i _ d ps h=>by
     obtain ⟨h1,h2,h3⟩:=he H enc fuel w base sp held _ d ps h
     exact ⟨h1,h2,h3 w' base' sp' held'⟩) hx
    refine ⟨⟨hl,(key w base sp held).1⟩,(key w base sp held).2.1,fun w' base' sp' held'=> ?_⟩
    rw [if_pos hl,(key w' base' sp' held').2.2]
    simp [(key w base sp held).2.1]
  · simp at h
theorem PT.weak {C D:List Value→Prop} {t:TypeId} (h:PT P C t) (hc:∀cs,C cs→D cs):PT P D t:=fun H enc fuel w base sp held cs d ps hh=>by
 obtain ⟨h1,h2,h3⟩:=h H enc fuel w base sp held cs d ps hh
 exact ⟨hc _ h1,h2,h3⟩
end
theorem Ua:MD.P.underlying 4=some .bool:=by kernel_rfl
theorem PX:MD.P.underlying 9=some .string:=by kernel_rfl
theorem PW:MD.P.underlying 3=some (.int .i64):=by kernel_rfl
theorem Ul:MD.P.cellsOf 4=1:=by kernel_rfl
theorem Um:MD.P.cellsOf 9=1:=by kernel_rfl
theorem Uk:MD.P.cellsOf 3=1:=by kernel_rfl
theorem HF:MD.P.cellsOf 27=2:=by kernel_rfl
theorem Ma:MD.P.cellsOf 28=8:=by kernel_rfl
theorem HG:MD.P.cellsOf 30=10:=by kernel_rfl
theorem Mb:MD.P.cellsOf 32=30:=by kernel_rfl
theorem Rb:MD.P.cellsOf 34=40:=by kernel_rfl
theorem Rc:MD.P.cellsOf 36=3:=by kernel_rfl
theorem NJ {α:Type} {l:List α} (h:l.length=2):∃a b,l=[a,b]:=by
 match l,h with
 |[a,b],_=>exact ⟨a,b,rfl⟩
theorem NK {α:Type} {l:List α} (h:l.length=3):∃a b c,l=[a,b,c]:=by
 match l,h with
 |[a,b,c],_=>exact ⟨a,b,c,rfl⟩
theorem Of:PT MD.P (fun cs=>∃r:RI,cs=r.vals) 27:=by
 refine (lK (C:=fun t cs=>if t=4 then ∃b,cs=[.bool b] else ∃s,cs=[.string s]) Er ?_).weak ?_
 · intro f hf
   simp only [List.mem_cons,List.not_mem_nil,or_false] at hf
   rcases hf with rfl|rfl
   · exact Lv Ua
   · exact Gc PX
 · rintro cs ⟨hl,h⟩
   rw [HF] at hl
   obtain ⟨a,b,rfl⟩:=NJ hl
   have h1:=h _ (.head _)
   have h2:=h _ (.tail _ (.head _))
   simp only [Ul,Um,if_true,show ¬(9:Nat)=4 by decide,if_false] at h1 h2
   obtain ⟨x,hx⟩:=h1
   obtain ⟨y,hy⟩:=h2
   simp at hx hy
   exact ⟨⟨x,y⟩,by rw [hx,hy];rfl⟩
theorem Te:PT MD.P (fun cs=>∃a b c d:RI,cs=a.vals++b.vals++c.vals++d.vals) 28:=by
 refine (IT KF Of).weak ?_
 rintro cs ⟨hl,h⟩
 rw [Ma] at hl
 simp only [HF] at h
 obtain ⟨a,ha⟩:=h 0 (by decide)
 obtain ⟨b,hb⟩:=h 1 (by decide)
 obtain ⟨c,hc⟩:=h 2 (by decide)
 obtain ⟨d,hd⟩:=h 3 (by decide)
 refine ⟨a,b,c,d, ?_⟩
 rw [←ha,←hb,←hc,←hd]
 match cs,hl with
 |[x0,x1,x2,x3,x4,x5,x6,x7],_=>rfl
theorem Og:PT MD.P (fun cs=>∃x:aq,cs=x.vals) 30:=by
 refine (lK (C:=fun t cs=>if t=28 then ∃a b c d:RI,cs=a.vals++b.vals++c.vals++d.vals else ∃r:RI,cs=r.vals) KG ?_).weak ?_
 · intro f hf
   simp only [List.mem_cons,List.not_mem_nil,or_false] at hf
   rcases hf with rfl|rfl
   · exact Te
   · exact Of
 · rintro cs ⟨hl,h⟩
   rw [HG] at hl
   have h1:=h _ (.head _)
   have h2:=h _ (.tail _ (.head _))
   simp only [Ma,HF,if_true,show ¬(27:Nat)=28 by decide,if_false,List.drop_zero] at h1 h2
   obtain ⟨a,b,c,d,hx⟩:=h1
   obtain ⟨e,hy⟩:=h2
   refine ⟨⟨a,b,c,d,e⟩, ?_⟩
   show cs=(a.vals++b.vals++c.vals++d.vals)++e.vals
   rw [←hx,←hy,List.take_of_length_le (l:=cs.drop 8) (by simp;omega),List.take_append_drop]
theorem Tf:PT MD.P (fun cs=>∃v:bl,cs=v.vals) 32:=by
 refine (lK (C:=fun _ cs=>∃x:aq,cs=x.vals) KH ?_).weak ?_
 · intro f hf
   simp only [List.mem_cons,List.not_mem_nil,or_false] at hf
   rcases hf with rfl|rfl|rfl<;>exact Og
 · rintro cs ⟨hl,h⟩
   rw [Mb] at hl
   have h1:=h _ (.head _)
   have h2:=h _ (.tail _ (.head _))
   have h3:=h _ (.tail _ (.tail _ (.head _)))
   simp only [HG,List.drop_zero] at h1 h2 h3
   obtain ⟨a,ha⟩:=h1
   obtain ⟨b,hb⟩:=h2
   obtain ⟨c,hc⟩:=h3
   refine ⟨⟨a,b,c⟩, ?_⟩
   show cs=a.vals++b.vals++c.vals
   rw [←ha,←hb,←hc,List.take_of_length_le (l:=cs.drop 20) (by simp;omega),List.append_assoc]
   have e:cs.drop 20=(cs.drop 10).drop 10:=by rw [List.drop_drop]
   rw [e,List.take_append_drop,List.take_append_drop]
theorem Tg:PT MD.P (fun cs=>∃p:bF,cs=p.vals) 34:=by
 refine (lK (C:=fun t cs=>if t=32 then ∃v:bl,cs=v.vals else ∃x:aq,cs=x.vals) KI ?_).weak ?_
 · intro f hf
   simp only [List.mem_cons,List.not_mem_nil,or_false] at hf
   rcases hf with rfl|rfl
   · exact Tf
   · exact Og
 · rintro cs ⟨hl,h⟩
   rw [Rb] at hl
   have h1:=h _ (.head _)
   have h2:=h _ (.tail _ (.head _))
   simp only [Mb,HG,if_true,show ¬(30:Nat)=32 by decide,if_false,List.drop_zero] at h1 h2
   obtain ⟨a,ha⟩:=h1
   obtain ⟨b,hb⟩:=h2
   refine ⟨⟨a,b⟩, ?_⟩
   show cs=a.vals++b.vals
   rw [←ha,←hb,List.take_of_length_le (l:=cs.drop 30) (by simp;omega),List.take_append_drop]
theorem Th:PT MD.P (fun cs=>∃s:aY,cs=s.vals) 36:=by
 refine (lK (C:=fun _ cs=>∃n,cs=[.int .i64 n]) KJ ?_).weak ?_
 · intro f hf
   simp only [List.mem_cons,List.not_mem_nil,or_false] at hf
   rcases hf with rfl|rfl|rfl<;>exact Oh PW
 · rintro cs ⟨hl,h⟩
   rw [Rc] at hl
   obtain ⟨a,b,c,rfl⟩:=NK hl
   have h1:=h _ (.head _)
   have h2:=h _ (.tail _ (.head _))
   have h3:=h _ (.tail _ (.tail _ (.head _)))
   simp only [Uk] at h1 h2 h3
   obtain ⟨x,hx⟩:=h1
   obtain ⟨y,hy⟩:=h2
   obtain ⟨z,hz⟩:=h3
   simp at hx hy hz
   exact ⟨⟨x,y,z⟩,by rw [hx,hy,hz];rfl⟩
def dI (H:Type):DataW H:= .agg [.lit (.bool false), .lit (.string [])]
def dN (H:Type):DataW H:= .agg [.agg [dI H,dI H,dI H,dI H],dI H]
def dV (H:Type):DataW H:= .agg [dN H,dN H,dN H]
def dP (H:Type):DataW H:= .agg [dV H,dN H]
def dS (H:Type):DataW H:= .agg [.lit (.int .i64 0), .lit (.int .i64 0), .lit (.int .i64 0)]
theorem PT.open {P:Program} {C:List Value→Prop} {t:TypeId} (h:PT P C t) (ht:ei P t=true) {w:World} {r:Reach} {b0:Nat} {v:Value} (hv:Value.okWide P w r b0 t v)
  {H:Type} {enc:TypeId×Value→H} {base:Nat} {sp:Nat→Bool} {held:Bool} {d:DataW H} {ps:List MemPlace} (hd:DataW.Trod enc P w base sp held t v d ps):
  (∃cs,v= .agg cs∧C cs.toList)∧ps=[]∧∀(w':World) (base':Nat) (sp':Nat→Bool) (held':Bool),DataW.Trod enc P w' base' sp' held' t v d []:=by
 obtain ⟨fuel,hf⟩:=hd
 obtain ⟨h1,h2,h3⟩:=h H enc fuel w base sp held _ d ps hf
 refine ⟨?_,h2,fun w' base' sp' held'=>⟨fuel,h3 w' base' sp' held'⟩⟩
 unfold Value.okWide at hv
 unfold ei at ht
 split at ht
 · rename_i fs hu;rw [hu] at hv;obtain ⟨cs,rfl,_⟩:=hv;exact ⟨cs,rfl,h1⟩
 · rename_i n e hu;rw [hu] at hv;obtain ⟨cs,rfl,_⟩:=hv;exact ⟨cs,rfl,h1⟩
 · simp at ht
theorem PG:ei MD.P 34=true:=by kernel_rfl
theorem PI:ei MD.P 36=true:=by kernel_rfl
theorem Oy (w:World) (Pr:aC) (v:bF):Rp w Pr (.ag v.cells) (.agg v.vals.toArray):=oY (by kernel_rfl)
theorem Oz (w:World) (Pr:aC) (v:aY):Rp w Pr (.ag v.cells) (.agg v.vals.toArray):=oY (by kernel_rfl)
end Go.Proofs.YtibbgjafjhcemaaDoor.Cul
namespace Go.Proofs.YtibbgjafjhcemaaDoor.Cul
open Go Go.RowKit
theorem Ez:JE MD 40 8 []=some ⟨.lit (.bool true),none⟩:=by kernel_rfl
theorem tW:az P0 8 [] ⟨.lit (.bool true),none⟩:=HA af 40 8 [] _ Ez
end Go.Proofs.YtibbgjafjhcemaaDoor.Cul
set_option maxRecDepth 100000
namespace Go.Proofs.YtibbgjafjhcemaaDoor.Cul
open Go Go.RowKit
def Q0:Cl:=bI [(8,Kw (bv true)),(9,xx fun i o=>(o - i)%24),(10,xx fun i o=>(o - i)%24),(11,xx fun i o=>(i+o)%24),(12,xx fun i o=>(i+o)%24),(13,oC (· %24))]
def tM:Cl:=bI [(30,oC (· %24))]
def OU:Cl:=bI [(13,oC (· %24))]
theorem Tl (x:Int):ay MD (bI []) 5 30 [iv x] [.c true]=
 some (RV.mk (PV.lit (Value.int IntKind.i64 (IntKind.i64.wrap (x.tmod 24+24)))) none,[false=false,decide (x.tmod 24<0)=true]):=by kernel_rfl
theorem Tm (x:Int):ay MD (bI []) 5 30 [iv x] [.c false]=
 some (RV.mk (PV.lit (Value.int IntKind.i64 (x.tmod 24))) none,[false=false,decide (x.tmod 24<0)=false]):=by kernel_rfl
theorem Yf (x:Int):ay MD (bI []) 5 13 [iv x] []=
 some (RV.mk (PV.lit (Value.int IntKind.i64 ((IntKind.i64.wrap (x.tmod 24+24)).tmod 24))) none,[false=false,false=false]):=by kernel_rfl
theorem r9 (x y:Int):ay MD tM 5 9 [iv x,iv y] [.r (one (iv (y%24))), .r (one (iv (x%24))), .r (one (iv ((y - x)%24)))]=
 some (RV.mk (PV.lit (Value.int IntKind.i64 ((y - x)%24))) none,[some (RV.mk (PV.lit (Value.int IntKind.i64 (y%24))) none)=some (RV.mk (PV.lit (Value.int IntKind.i64 (y%24))) none),some (RV.mk (PV.lit (Value.int IntKind.i64 (x%24))) none)=some (RV.mk (PV.lit (Value.int IntKind.i64 (x%24))) none),some (RV.mk (PV.lit (Value.int IntKind.i64 (IntKind.i64.wrap (y%24 - x%24)%24))) none)=some (RV.mk (PV.lit (Value.int IntKind.i64 ((y - x)%24))) none)]):=by kernel_rfl
theorem Yd (x y:Int):ay MD tM 5 11 [iv x,iv y] [.r (one (iv (x%24))), .r (one (iv (y%24))), .r (one (iv ((x+y)%24)))]=
 some (RV.mk (PV.lit (Value.int IntKind.i64 ((x+y)%24))) none,[some (RV.mk (PV.lit (Value.int IntKind.i64 (x%24))) none)=some (RV.mk (PV.lit (Value.int IntKind.i64 (x%24))) none),some (RV.mk (PV.lit (Value.int IntKind.i64 (y%24))) none)=some (RV.mk (PV.lit (Value.int IntKind.i64 (y%24))) none),some (RV.mk (PV.lit (Value.int IntKind.i64 (IntKind.i64.wrap (x%24+y%24)%24))) none)=some (RV.mk (PV.lit (Value.int IntKind.i64 ((x+y)%24))) none)]):=by kernel_rfl
theorem Yc (x y:Int):ay MD OU 5 10 [iv x,iv y] [.r (one (iv (y%24))), .r (one (iv (x%24))), .r (one (iv ((y - x)%24)))]=
 some (RV.mk (PV.lit (Value.int IntKind.i64 ((y - x)%24))) none,[some (RV.mk (PV.lit (Value.int IntKind.i64 (y%24))) none)=some (RV.mk (PV.lit (Value.int IntKind.i64 (y%24))) none),some (RV.mk (PV.lit (Value.int IntKind.i64 (x%24))) none)=some (RV.mk (PV.lit (Value.int IntKind.i64 (x%24))) none),some (RV.mk (PV.lit (Value.int IntKind.i64 (IntKind.i64.wrap (y%24 - x%24)%24))) none)=some (RV.mk (PV.lit (Value.int IntKind.i64 ((y - x)%24))) none)]):=by kernel_rfl
theorem Ye (x y:Int):ay MD OU 5 12 [iv x,iv y] [.r (one (iv (x%24))), .r (one (iv (y%24))), .r (one (iv ((x+y)%24)))]=
 some (RV.mk (PV.lit (Value.int IntKind.i64 ((x+y)%24))) none,[some (RV.mk (PV.lit (Value.int IntKind.i64 (x%24))) none)=some (RV.mk (PV.lit (Value.int IntKind.i64 (x%24))) none),some (RV.mk (PV.lit (Value.int IntKind.i64 (y%24))) none)=some (RV.mk (PV.lit (Value.int IntKind.i64 (y%24))) none),some (RV.mk (PV.lit (Value.int IntKind.i64 (IntKind.i64.wrap (x%24+y%24)%24))) none)=some (RV.mk (PV.lit (Value.int IntKind.i64 ((x+y)%24))) none)]):=by kernel_rfl
theorem r3 (x y:Int):ay MD Q0 5 3 [iv x,iv y] [.r (one (bv true)), .r (one (iv ((y - x)%24))), .r (one (iv ((y - x)%24))), .c true, .r (one (iv ((x+y)%24))), .r (one (iv ((x+y)%24))), .c true, .c true, .c true, .r (one (iv (x%24))), .r (one (iv (x%24))), .c true, .r (one (iv (y%24))), .r (one (iv (y%24))), .c true]=
 some (RV.mk (PV.lit (Value.bool true)) none,[some (RV.mk (PV.lit (Value.bool true)) none)=some (RV.mk (PV.lit (Value.bool true)) none),some (RV.mk (PV.lit (Value.int IntKind.i64 ((y - x)%24))) none)=some (RV.mk (PV.lit (Value.int IntKind.i64 ((y - x)%24))) none),some (RV.mk (PV.lit (Value.int IntKind.i64 ((y - x)%24))) none)=some (RV.mk (PV.lit (Value.int IntKind.i64 ((y - x)%24))) none),((y - x)%24==(y - x)%24)=true,some (RV.mk (PV.lit (Value.int IntKind.i64 ((x+y)%24))) none)=some (RV.mk (PV.lit (Value.int IntKind.i64 ((x+y)%24))) none),some (RV.mk (PV.lit (Value.int IntKind.i64 ((x+y)%24))) none)=some (RV.mk (PV.lit (Value.int IntKind.i64 ((x+y)%24))) none),((x+y)%24==(x+y)%24)=true,decide ((y - x)%24≥0)=true,decide ((y - x)%24<24)=true,some (RV.mk (PV.lit (Value.int IntKind.i64 ((y - (y - x)%24)%24))) none)=some (RV.mk (PV.lit (Value.int IntKind.i64 (x%24))) none),some (RV.mk (PV.lit (Value.int IntKind.i64 (x%24))) none)=some (RV.mk (PV.lit (Value.int IntKind.i64 (x%24))) none),(x%24==x%24)=true,some (RV.mk (PV.lit (Value.int IntKind.i64 ((x+(y - x)%24)%24))) none)=some (RV.mk (PV.lit (Value.int IntKind.i64 (y%24))) none),some (RV.mk (PV.lit (Value.int IntKind.i64 (y%24))) none)=some (RV.mk (PV.lit (Value.int IntKind.i64 (y%24))) none),(y%24==y%24)=true]):=by kernel_rfl
theorem wrap_small {n:Int} (h1: -(2^63)≤n) (h2:n<2^63):IntKind.i64.wrap n=n:=by
 unfold IntKind.wrap IntKind.bits IntKind.signed
 simp only
 have e1:(2:Int)^64=18446744073709551616:=by decide
 have e2:(2:Int)^(64 - 1)=9223372036854775808:=by decide
 rw [e1,e2]
 split
 · rename_i h;simp only [Bool.true_and,decide_eq_true_eq] at h;omega
 · rename_i h;simp only [Bool.true_and,decide_eq_true_eq] at h;omega
theorem pq (x:Int):x.tmod 24=if x%24≠0∧x<0 then x%24 - 24 else x%24:=by
 have:=Int.tmod_eq_emod (a:=x) (b:=24)
 rw [this]
 have hd:(24:Int)∣x↔x%24=0:=Int.dvd_iff_emod_eq_zero
 simp only [hd]
 by_cases h:0≤x
 · simp [h,show ¬x<0 by omega]
 · by_cases h2:x%24=0
   · simp [h2]
   · simp [h,h2,show x<0 by omega]
theorem vB (x:Int):az P0 30 [iv x] (one (iv (x%24))):=by
 by_cases h:x.tmod 24<0
 · have:=ah af (aH aE) (by rfl) (Tl x) ⟨rfl,by simpa using h,trivial⟩
   have e:IntKind.i64.wrap (x.tmod 24+24)=x%24:=by
    rw [wrap_small]<;>rw [pq] at* <;>split at* <;>omega
   rw [e] at this;exact this
 · have:=ah af (aH aE) (by rfl) (Tm x) ⟨rfl,by simpa using h,trivial⟩
   have e:x.tmod 24=x%24:=by rw [pq] at *;split at* <;>omega
   rw [e] at this;exact this
theorem rT (x:Int):az P0 13 [iv x] (one (iv (x%24))):=by
 have:=ah af (aH aE) (by rfl) (Yf x) ⟨rfl,rfl,trivial⟩
 have e:(IntKind.i64.wrap (x.tmod 24+24)).tmod 24=x%24:=by
  rw [wrap_small]
  · rw [pq (x.tmod 24+24)];rw [pq];split<;>split<;>omega
  · rw [pq];split<;>omega
  · rw [pq];split<;>omega
 rw [e] at this;exact this
theorem KB:aI P0 tM:=aH (aj (kR vB) aE)
theorem Hj:aI P0 OU:=aH (aj (kR rT) aE)
theorem w1 (x y:Int):IntKind.i64.wrap (y%24 - x%24)%24=(y - x)%24:=by rw [wrap_small]<;>omega
theorem w2 (x y:Int):IntKind.i64.wrap (x%24+y%24)%24=(x+y)%24:=by rw [wrap_small]<;>omega
theorem Ir (x y:Int):az P0 9 [iv x,iv y] (one (iv ((y - x)%24))):=ah af KB (by rfl) (r9 x y) ⟨rfl,rfl,by rw [w1],trivial⟩
theorem F3 (x y:Int):az P0 11 [iv x,iv y] (one (iv ((x+y)%24))):=ah af KB (by rfl) (Yd x y) ⟨rfl,rfl,by rw [w2],trivial⟩
theorem BG (x y:Int):az P0 10 [iv x,iv y] (one (iv ((y - x)%24))):=ah af Hj (by rfl) (Yc x y) ⟨rfl,rfl,by rw [w1],trivial⟩
theorem AY (x y:Int):az P0 12 [iv x,iv y] (one (iv ((x+y)%24))):=ah af Hj (by rfl) (Ye x y) ⟨rfl,rfl,by rw [w2],trivial⟩
theorem OV:aI P0 Q0:=aH (aj (Bc tW) (aj (sP Ir) (aj (sP BG) (aj (sP F3) (aj (sP AY) (aj (kR rT) aE))))))
theorem La (x y:Int):az P0 3 [iv x,iv y] (one (bv true)):=by
 refine ah af OV (by rfl) (r3 x y) ⟨rfl,rfl,rfl,by simp,rfl,rfl,by simp, ?_, ?_, ?_,rfl,by simp, ?_,rfl,by simp,trivial⟩
 · simp only [ge_iff_le,decide_eq_true_eq];omega
 · simp only [decide_eq_true_eq];omega
 · rw [show (y - (y - x)%24)%24=x%24 by omega]
 · rw [show (x+(y - x)%24)%24=y%24 by omega]
end Go.Proofs.YtibbgjafjhcemaaDoor.Cul
namespace Go.Proofs.YtibbgjafjhcemaaDoor.Cul
open Go Go.RowKit Go.ChangeShapes Go.WideShapes Go.ChangeAt
open Go.Proofs Go.Proofs.YtibbgjafjhcemaaDoor
theorem xV {f:Nat} {QU:List PV} (h:az P0 f QU (one (bv true))) (W:World) (Pr:aC) (hp:∀b o,Pr b o→b<W.heap.size) {vs:List Value} (hr:aO W Pr QU vs):
  Calls Tryd.prog f vs.toArray W fun e W'=>e= .returned (.bool true)∧Below W.heap.size W W':=
 (h.2 vs W Pr hp hr).mono fun e W' ⟨v,aD,he,ef⟩=>by
   have:=ef.rp
   cases this
   exact ⟨he,ef.fw.gO⟩
namespace yH
set_option maxRecDepth 100000 in
theorem contract (H:Type) (enc:TypeId×Value→H) (W:World) (base:Nat) (args:Array Value) (ds gs:List (DataW H)) (before:List MemPlace)
  (hval:∀(j:Nat) t v,Tryd.f3.params[j]? =some t→args[j]? =some v→Value.okWide Tryd.prog W .any base t v)
  (hW:DataW.Whole enc Tryd.prog Tryd.f3.params.toList Rows.transferIndexSpec.vars false W args.toList ds gs before):
  Calls Tryd.prog 3 args W fun e W'=>∃v,e= .returned v∧Rows.transferIndexSpec.post enc Tryd.prog Tryd.f3 false true false false W args v W':=by
 have E9:=hW
 obtain ⟨p,q,E8,hV,rfl,hfz,rD⟩:=hW
 have hA:DataW.TrodAll enc Tryd.prog W 0 (fun _=>true) true Tryd.f3.params.toList args.toList ds p:=E8
 rw [Tryd.params3] at hA hval
 obtain ⟨v0,v1,d0,d1,p0,p1,rfl,rfl,rfl,h0,h1⟩:=trodAll_two hA
 obtain ⟨rfl,rfl⟩:=trodVars_none hV
 obtain ⟨a,rfl,rfl,rfl,wa⟩:=open_int Tryd.underlying3 (hval 0 3 v0 rfl rfl) h0
 obtain ⟨b,rfl,rfl,rfl,wb⟩:=open_int Tryd.underlying3 (hval 1 3 v1 rfl rfl) h1
 clear E8
 simp only [List.append_nil] at E9
 refine (xV (La a b) W (fun _ _=>False) (fun _ _ h=>h.elim) (vs:=[.int .i64 a, .int .i64 b]) (.cons (.lit rfl) (.cons (.lit rfl) .nil))).mono fun e W' ⟨he,hb⟩=> ?_
 subst he
 refine ⟨_,rfl,_,_,_,[],[],[],E9,trodAll_cons_mk (shut_bool Tryd.underlying4 _) trodAll_mk0,trodAll_mk2 (shut_int Tryd.underlying3 wa) (shut_int Tryd.underlying3 wb),rfl,hb.frame _,fun h=>by simp at h⟩
theorem reads (os:Os) {H:Type} (enc:TypeId×Value→H):∃places,DataW.whole enc Tryd.prog ((iN os #[]).forCall (fun _ _=>0) ⟨#[], #[.int .i64 0, .int .i64 0],[]⟩).memory Tryd.f3.params.toList Rows.transferIndexSpec.vars false #[Value.int .i64 0,Value.int .i64 0].toList 8=some ([.lit (.int .i64 0), .lit (.int .i64 0)],[],places):=
 ⟨[],by kernel_rfl⟩
theorem pV (os:Os):laidMet Tryd.prog Rows.transferIndexRow.laid ((iN os #[]).forCall (fun _ _=>0) ⟨#[], #[.int .i64 0, .int .i64 0],[]⟩).memory:=
 laidMet_of_run' 8 (by kernel_rfl) (by kernel_rfl)
set_option maxRecDepth 100000 in
theorem lifted (os:Os) (started:os.Started) (H:Type) (enc:TypeId×Value→H) (F:Stop.Interp):
  ReturnsInHanded {} Tryd.checked os 3 .any ((OpenSpec.ofChange Rows.transferIndexSpec).preRow enc Tryd.prog Tryd.f3 Rows.transferIndexRow.domain false Rows.transferIndexRow.laid) (((OpenSpec.ofChange Rows.transferIndexSpec).at F).post enc Tryd.prog Tryd.f3 false true false false):=by
 obtain ⟨places,hx⟩:=reads os enc
 refine returnsInHanded_of_row (C:=Tryd.checked) (s:=OpenSpec.ofChange Rows.transferIndexSpec) Ob started (by kernel_rfl) Tryd.func3
  (witness_row_at (enc:=enc) (C:=Tryd.checked) false (iN os #[]) #[.int .i64 0, .int .i64 0] rfl (by kernel_rfl) (by kernel_rfl) (by kernel_rfl)
   (OpenSpec.preRow_of_cond 8 hx (by kernel_rfl) (fun k hk=>by cases hk) (by kernel_rfl) (pV os))) ?_
 intro W base args ds gs before hval hW _ _ _ hL _ _
 exact contract H enc W base args ds gs before hval hW
theorem said:Rows.TransferIndexSaid:=
 OpenClaim.holds_of_cond 3 Tryd.f3 rfl rfl rfl rfl rfl rfl rfl ⟨rfl,rfl,rfl,rfl,rfl⟩ rfl rfl rfl rfl rfl (by kernel_rfl) Tryd.func3 (by kernel_rfl)
  (of_decide_eq_true (by kernel_rfl)) (by unfold Func.isWrapper;first|(rw [if_pos (by decide+kernel)];kernel_rfl)|(rw [if_neg (by decide+kernel)];exact ⟨rfl,rfl⟩))
  (fun os started H enc _ F=>by rw [OpenClaim.pre_eq_preRow];exact lifted os started H enc F)
theorem plain (f:FuncId) (fn:Func) (hf:Tryd.pinned.checked.prog.funcNamed "culet/culetlaw50.TransferIndex" =some f) (hfn:Tryd.pinned.checked.prog.funcs[f]? =some fn):
  false=Tryd.pinned.checked.prog.looks []∧∀(j:Nat) t,fn.params[j]? =some t→Tryd.pinned.checked.prog.wantsStandIn t=false:=by
 obtain rfl:f=3:=Option.some.inj ((show Tryd.prog.funcNamed "culet/culetlaw50.TransferIndex" =some 3 by kernel_rfl).symm.trans hf)|>.symm
 obtain rfl:fn=Tryd.f3:=(Option.some.inj (Tryd.func3.symm.trans hfn)).symm
 refine ⟨by kernel_rfl,fun j t ht=> ?_⟩
 rw [Tryd.params3] at ht
 obtain rfl:t=3:=by simpa using Array.mem_of_getElem? ht
 exact (show Tryd.prog.wantsStandIn 3=false by kernel_rfl)
theorem card:Rows.TransferIndexCardSaid:=
 Claim7.holds_tied_plain_at .later [] _ _ _ _ said (fun _ h=>by cases h) (by kernel_rfl) (fun _ h=>by cases h) transferIndex_row_tie rfl ⟨rfl,rfl⟩ (by kernel_rfl) rfl plain (by kernel_rfl)
end yH
end Go.Proofs.YtibbgjafjhcemaaDoor.Cul
set_option maxHeartbeats 2000000
namespace Go.Proofs.YtibbgjafjhcemaaDoor.Cul
open Go Go.RowKit
noncomputable def t30:Cl:=bI [(111,qN),(95,jx)]
noncomputable def t31:Cl:=bI [(112,r4),(95,jx)]
theorem Ug (k n m r:Nat) (c:Int) (cs ds cs0 es fs gs:List PV) (p:PV):ay MD t30 k 97 [.sl 1 n cs, .sl 1 m ds] [.c false, .i 19 (n+1:Nat), .c false, .f cs0, .l (.exit 0) ⟨[(0, .pv (.sl 1 n cs)),(1, .pv (.sl 1 m ds)),(5, .bs 20 0 1 (n+1)),(6, .pv (.lit (.int .u32 c))),(21, .pv (.sl 1 n cs)),(22, .pv (iv n)),(23, .pv (iv n)),(24, .pv (bv false))],[(20,es)],[],[]⟩, .j 51 n, .s fs, .f gs, .r (one p)]=
 some (RV.mk p none,[decide ((↑n:Int)<(↑m:Int))=false,IntKind.i64.wrap ((↑n:Int)+(1:Int))=(↑(n+(1:Nat)):Int),(0:Int)≤(↑(n+(1:Nat)):Int)∧(↑(n+(1:Nat)):Int)≤(↑(n+(1:Nat)):Int)∧(↑(n+(1:Nat)):Int)* (↑(MD.P.bytesOf (111:Nat)):Int)≤(↑room:Int)∧(↑(n+(1:Nat)):Int)≤(↑room:Int),decide ((↑(n+(1:Nat)):Int)=(0:Int))=false,fP [PV.lit (Value.int IntKind.u32 (0:Int))] (↑(n+(1:Nat)):Int).toNat cs0,aW MD t30 k (97:Nat) (0:Nat) (St.mk [(0,AV.pv (PV.sl 1 n cs)),(1,AV.pv (PV.sl 1 m ds)),(5,AV.bs 20 0 1 (↑(n+(1:Nat)):Int).toNat),(6,AV.pv (PV.lit (Value.int IntKind.u32 (0:Int)))),(21,AV.pv (PV.sl 1 n cs)),(22,AV.pv (PV.lit (Value.int IntKind.i64 (↑n:Int)))),(23,AV.pv (PV.lit (Value.int IntKind.i64 (0:Int))))] [(20,cs0)] [] []) (Xt.exit 0) (St.mk [(0,AV.pv (PV.sl 1 n cs)),(1,AV.pv (PV.sl 1 m ds)),(5,AV.bs 20 0 1 (n+1)),(6,AV.pv (PV.lit (Value.int IntKind.u32 c))),(21,AV.pv (PV.sl 1 n cs)),(22,AV.pv (PV.lit (Value.int IntKind.i64 (↑n:Int)))),(23,AV.pv (PV.lit (Value.int IntKind.i64 (↑n:Int)))),(24,AV.pv (PV.lit (Value.bool false)))] [(20,es)] [] []),aK (↑n:Int) (n+1) n,0+n* 1+1≤es.length,cg es (0+n* 1) [PV.lit (Value.int IntKind.u32 c)] fs,cH fs 0 ((n+1)* 1) gs,aa t30 95 [PV.sl 1 (n+1) gs] (RV.mk p none)]):=by kernel_rfl
theorem Uh (k n m r:Nat) (c:Int) (cs ds cs0 es fs gs:List PV) (p:PV):ay MD t30 k 97 [.sl 1 m ds, .sl 1 n cs] [.c true, .i 19 (n+1:Nat), .c false, .f cs0, .l (.exit 0) ⟨[(0, .pv (.sl 1 n cs)),(1, .pv (.sl 1 m ds)),(5, .bs 20 0 1 (n+1)),(6, .pv (.lit (.int .u32 c))),(21, .pv (.sl 1 n cs)),(22, .pv (iv n)),(23, .pv (iv n)),(24, .pv (bv false))],[(20,es)],[],[]⟩, .j 51 n, .s fs, .f gs, .r (one p)]=
 some (RV.mk p none,[decide ((↑m:Int)<(↑n:Int))=true,IntKind.i64.wrap ((↑n:Int)+(1:Int))=(↑(n+(1:Nat)):Int),(0:Int)≤(↑(n+(1:Nat)):Int)∧(↑(n+(1:Nat)):Int)≤(↑(n+(1:Nat)):Int)∧(↑(n+(1:Nat)):Int)* (↑(MD.P.bytesOf (111:Nat)):Int)≤(↑room:Int)∧(↑(n+(1:Nat)):Int)≤(↑room:Int),decide ((↑(n+(1:Nat)):Int)=(0:Int))=false,fP [PV.lit (Value.int IntKind.u32 (0:Int))] (↑(n+(1:Nat)):Int).toNat cs0,aW MD t30 k (97:Nat) (0:Nat) (St.mk [(0,AV.pv (PV.sl 1 n cs)),(1,AV.pv (PV.sl 1 m ds)),(5,AV.bs 20 0 1 (↑(n+(1:Nat)):Int).toNat),(6,AV.pv (PV.lit (Value.int IntKind.u32 (0:Int)))),(21,AV.pv (PV.sl 1 n cs)),(22,AV.pv (PV.lit (Value.int IntKind.i64 (↑n:Int)))),(23,AV.pv (PV.lit (Value.int IntKind.i64 (0:Int))))] [(20,cs0)] [] []) (Xt.exit 0) (St.mk [(0,AV.pv (PV.sl 1 n cs)),(1,AV.pv (PV.sl 1 m ds)),(5,AV.bs 20 0 1 (n+1)),(6,AV.pv (PV.lit (Value.int IntKind.u32 c))),(21,AV.pv (PV.sl 1 n cs)),(22,AV.pv (PV.lit (Value.int IntKind.i64 (↑n:Int)))),(23,AV.pv (PV.lit (Value.int IntKind.i64 (↑n:Int)))),(24,AV.pv (PV.lit (Value.bool false)))] [(20,es)] [] []),aK (↑n:Int) (n+1) n,0+n* 1+1≤es.length,cg es (0+n* 1) [PV.lit (Value.int IntKind.u32 c)] fs,cH fs 0 ((n+1)* 1) gs,aa t30 95 [PV.sl 1 (n+1) gs] (RV.mk p none)]):=by kernel_rfl
theorem Q7 (k n m i c x y s d:Nat) (cs ds es es':List PV):aA MD t30 k 97 0 ⟨[(0, .pv (.sl 1 n cs)),(1, .pv (.sl 1 m ds)),(5, .bs 20 0 1 (n+1)),(6, .pv (ak c)),(21, .pv (.sl 1 n cs)),(22, .pv (iv n)),(23, .pv (iv i))],[(20,es)],[],[]⟩ [.c true, .a 26 [ak x], .c true, .a 34 [ak y], .r (one (.aG [ak s,ak d])), .j 45 i, .s es', .i 46 (i+1:Nat)]=
 some ((Xt.normal,St.mk [(0,AV.pv (PV.sl 1 n cs)),(1,AV.pv (PV.sl 1 m ds)),(5,AV.bs 20 0 1 (n+1)),(6,AV.pv (PV.lit (Value.int IntKind.u32 (↑d:Int)))),(21,AV.pv (PV.sl 1 n cs)),(22,AV.pv (PV.lit (Value.int IntKind.i64 (↑n:Int)))),(23,AV.pv (PV.lit (Value.int IntKind.i64 (↑(i+(1:Nat)):Int))))] [(20,es')] [] []),[],[decide ((↑i:Int)<(↑n:Int))=true,aL cs 1 (↑i:Int) n [PV.lit (Value.int IntKind.u32 (↑x:Int))],decide ((↑i:Int)<(↑m:Int))=true,aL ds 1 (↑i:Int) m [PV.lit (Value.int IntKind.u32 (↑y:Int))],aa t30 111 [PV.lit (Value.int IntKind.u32 (↑x:Int)),PV.lit (Value.int IntKind.u32 (↑y:Int)),PV.lit (Value.int IntKind.u32 (↑c:Int))] (RV.mk (PV.aG [PV.lit (Value.int IntKind.u32 (↑s:Int)),PV.lit (Value.int IntKind.u32 (↑d:Int))]) none),aK (↑i:Int) (n+1) i,0+i* 1+1≤es.length,cg es (0+i* 1) [PV.lit (Value.int IntKind.u32 (↑s:Int))] es',IntKind.i64.wrap ((↑i:Int)+(1:Int))=(↑(i+(1:Nat)):Int)]):=by kernel_rfl
theorem Q8 (k n m i c x s d:Nat) (cs ds es es':List PV):aA MD t30 k 97 0 ⟨[(0, .pv (.sl 1 n cs)),(1, .pv (.sl 1 m ds)),(5, .bs 20 0 1 (n+1)),(6, .pv (ak c)),(21, .pv (.sl 1 n cs)),(22, .pv (iv n)),(23, .pv (iv i))],[(20,es)],[],[]⟩ [.c true, .a 26 [ak x], .c false, .r (one (.aG [ak s,ak d])), .j 45 i, .s es', .i 46 (i+1:Nat)]=
 some ((Xt.normal,St.mk [(0,AV.pv (PV.sl 1 n cs)),(1,AV.pv (PV.sl 1 m ds)),(5,AV.bs 20 0 1 (n+1)),(6,AV.pv (PV.lit (Value.int IntKind.u32 (↑d:Int)))),(21,AV.pv (PV.sl 1 n cs)),(22,AV.pv (PV.lit (Value.int IntKind.i64 (↑n:Int)))),(23,AV.pv (PV.lit (Value.int IntKind.i64 (↑(i+(1:Nat)):Int))))] [(20,es')] [] []),[],[decide ((↑i:Int)<(↑n:Int))=true,aL cs 1 (↑i:Int) n [PV.lit (Value.int IntKind.u32 (↑x:Int))],decide ((↑i:Int)<(↑m:Int))=false,aa t30 111 [PV.lit (Value.int IntKind.u32 (↑x:Int)),PV.lit (Value.int IntKind.u32 (0:Int)),PV.lit (Value.int IntKind.u32 (↑c:Int))] (RV.mk (PV.aG [PV.lit (Value.int IntKind.u32 (↑s:Int)),PV.lit (Value.int IntKind.u32 (↑d:Int))]) none),aK (↑i:Int) (n+1) i,0+i* 1+1≤es.length,cg es (0+i* 1) [PV.lit (Value.int IntKind.u32 (↑s:Int))] es',IntKind.i64.wrap ((↑i:Int)+(1:Int))=(↑(i+(1:Nat)):Int)]):=by kernel_rfl
theorem Q9 (k n m i c:Nat) (cs ds es:List PV):aA MD t30 k 97 0 ⟨[(0, .pv (.sl 1 n cs)),(1, .pv (.sl 1 m ds)),(5, .bs 20 0 1 (n+1)),(6, .pv (ak c)),(21, .pv (.sl 1 n cs)),(22, .pv (iv n)),(23, .pv (iv i))],[(20,es)],[],[]⟩ [.c false]=
 some ((Xt.exit 0,St.mk [(0,AV.pv (PV.sl 1 n cs)),(1,AV.pv (PV.sl 1 m ds)),(5,AV.bs 20 0 1 (n+1)),(6,AV.pv (PV.lit (Value.int IntKind.u32 (↑c:Int)))),(21,AV.pv (PV.sl 1 n cs)),(22,AV.pv (PV.lit (Value.int IntKind.i64 (↑n:Int)))),(23,AV.pv (PV.lit (Value.int IntKind.i64 (↑i:Int)))),(24,AV.pv (PV.lit (Value.bool false)))] [(20,es)] [] []),[],[decide ((↑i:Int)<(↑n:Int))=false]):=by kernel_rfl
theorem WW (k n m r:Nat) (c:Int) (cs ds cs0 es fs gs:List PV) (p:PV):ay MD t31 k 99 [.sl 1 n cs, .sl 1 m ds] [.c false, .f cs0, .l (.exit 0) ⟨[(1, .pv (.sl 1 m ds)),(5, .bs 12 0 1 n),(6, .pv (.lit (.int .u32 c))),(13, .pv (.sl 1 n cs)),(14, .pv (iv n)),(15, .pv (iv n)),(16, .pv (bv false))],[(12,es)],[],[]⟩, .f gs, .r (one p)]=
 some (RV.mk p none,[(0:Int)≤(↑n:Int)∧(↑n:Int)≤(↑n:Int)∧(↑n:Int)* (↑(MD.P.bytesOf (111:Nat)):Int)≤(↑room:Int)∧(↑n:Int)≤(↑room:Int),decide ((↑n:Int)=(0:Int))=false,fP [PV.lit (Value.int IntKind.u32 (0:Int))] n cs0,aW MD t31 k (99:Nat) (0:Nat) (St.mk [(1,AV.pv (PV.sl 1 m ds)),(5,AV.bs 12 0 1 n),(6,AV.pv (PV.lit (Value.int IntKind.u32 (0:Int)))),(13,AV.pv (PV.sl 1 n cs)),(14,AV.pv (PV.lit (Value.int IntKind.i64 (↑n:Int)))),(15,AV.pv (PV.lit (Value.int IntKind.i64 (0:Int))))] [(12,cs0)] [] []) (Xt.exit 0) (St.mk [(1,AV.pv (PV.sl 1 m ds)),(5,AV.bs 12 0 1 n),(6,AV.pv (PV.lit (Value.int IntKind.u32 c))),(13,AV.pv (PV.sl 1 n cs)),(14,AV.pv (PV.lit (Value.int IntKind.i64 (↑n:Int)))),(15,AV.pv (PV.lit (Value.int IntKind.i64 (↑n:Int)))),(16,AV.pv (PV.lit (Value.bool false)))] [(12,es)] [] []),cH es 0 (n* 1) gs,aa t31 95 [PV.sl 1 n gs] (RV.mk p none)]):=by kernel_rfl
theorem R1 (k n m i c x y s d:Nat) (cs ds es es':List PV):aA MD t31 k 99 0 ⟨[(1, .pv (.sl 1 m ds)),(5, .bs 12 0 1 n),(6, .pv (ak c)),(13, .pv (.sl 1 n cs)),(14, .pv (iv n)),(15, .pv (iv i))],[(12,es)],[],[]⟩ [.c true, .a 18 [ak x], .c true, .a 26 [ak y], .r (one (.aG [ak s,ak d])), .j 37 i, .s es', .i 38 (i+1:Nat)]=
 some ((Xt.normal,St.mk [(1,AV.pv (PV.sl 1 m ds)),(5,AV.bs 12 0 1 n),(6,AV.pv (PV.lit (Value.int IntKind.u32 (↑d:Int)))),(13,AV.pv (PV.sl 1 n cs)),(14,AV.pv (PV.lit (Value.int IntKind.i64 (↑n:Int)))),(15,AV.pv (PV.lit (Value.int IntKind.i64 (↑(i+(1:Nat)):Int))))] [(12,es')] [] []),[],[decide ((↑i:Int)<(↑n:Int))=true,aL cs 1 (↑i:Int) n [PV.lit (Value.int IntKind.u32 (↑x:Int))],decide ((↑i:Int)<(↑m:Int))=true,aL ds 1 (↑i:Int) m [PV.lit (Value.int IntKind.u32 (↑y:Int))],aa t31 112 [PV.lit (Value.int IntKind.u32 (↑x:Int)),PV.lit (Value.int IntKind.u32 (↑y:Int)),PV.lit (Value.int IntKind.u32 (↑c:Int))] (RV.mk (PV.aG [PV.lit (Value.int IntKind.u32 (↑s:Int)),PV.lit (Value.int IntKind.u32 (↑d:Int))]) none),aK (↑i:Int) n i,0+i* 1+1≤es.length,cg es (0+i* 1) [PV.lit (Value.int IntKind.u32 (↑s:Int))] es',IntKind.i64.wrap ((↑i:Int)+(1:Int))=(↑(i+(1:Nat)):Int)]):=by kernel_rfl
theorem R2 (k n m i c x s d:Nat) (cs ds es es':List PV):aA MD t31 k 99 0 ⟨[(1, .pv (.sl 1 m ds)),(5, .bs 12 0 1 n),(6, .pv (ak c)),(13, .pv (.sl 1 n cs)),(14, .pv (iv n)),(15, .pv (iv i))],[(12,es)],[],[]⟩ [.c true, .a 18 [ak x], .c false, .r (one (.aG [ak s,ak d])), .j 37 i, .s es', .i 38 (i+1:Nat)]=
 some ((Xt.normal,St.mk [(1,AV.pv (PV.sl 1 m ds)),(5,AV.bs 12 0 1 n),(6,AV.pv (PV.lit (Value.int IntKind.u32 (↑d:Int)))),(13,AV.pv (PV.sl 1 n cs)),(14,AV.pv (PV.lit (Value.int IntKind.i64 (↑n:Int)))),(15,AV.pv (PV.lit (Value.int IntKind.i64 (↑(i+(1:Nat)):Int))))] [(12,es')] [] []),[],[decide ((↑i:Int)<(↑n:Int))=true,aL cs 1 (↑i:Int) n [PV.lit (Value.int IntKind.u32 (↑x:Int))],decide ((↑i:Int)<(↑m:Int))=false,aa t31 112 [PV.lit (Value.int IntKind.u32 (↑x:Int)),PV.lit (Value.int IntKind.u32 (0:Int)),PV.lit (Value.int IntKind.u32 (↑c:Int))] (RV.mk (PV.aG [PV.lit (Value.int IntKind.u32 (↑s:Int)),PV.lit (Value.int IntKind.u32 (↑d:Int))]) none),aK (↑i:Int) n i,0+i* 1+1≤es.length,cg es (0+i* 1) [PV.lit (Value.int IntKind.u32 (↑s:Int))] es',IntKind.i64.wrap ((↑i:Int)+(1:Int))=(↑(i+(1:Nat)):Int)]):=by kernel_rfl
theorem R3 (k n m i c:Nat) (cs ds es:List PV):aA MD t31 k 99 0 ⟨[(1, .pv (.sl 1 m ds)),(5, .bs 12 0 1 n),(6, .pv (ak c)),(13, .pv (.sl 1 n cs)),(14, .pv (iv n)),(15, .pv (iv i))],[(12,es)],[],[]⟩ [.c false]=
 some ((Xt.exit 0,St.mk [(1,AV.pv (PV.sl 1 m ds)),(5,AV.bs 12 0 1 n),(6,AV.pv (PV.lit (Value.int IntKind.u32 (↑c:Int)))),(13,AV.pv (PV.sl 1 n cs)),(14,AV.pv (PV.lit (Value.int IntKind.i64 (↑n:Int)))),(15,AV.pv (PV.lit (Value.int IntKind.i64 (↑i:Int)))),(16,AV.pv (PV.lit (Value.bool false)))] [(12,es)] [] []),[],[decide ((↑i:Int)<(↑n:Int))=false]):=by kernel_rfl
theorem He:aI MD.P t30:=aH (aj (au fun x h=>tT x.1 x.2.1 x.2.2 h.1 h.2.1 h.2.2) (aj (au fun l h=>mI l h.1 h.2) aE))
theorem OL:aI MD.P t31:=aH (aj (au fun x h=>Be x.1 x.2.1 x.2.2 h.1 h.2.1 h.2.2) (aj (au fun l h=>mI l h.1 h.2) aE))
theorem vO {n:Nat} (h:n<2^41):(0:Int)≤(n:Int)∧(n:Int)≤(n:Int)∧(n:Int)* ((MD.P.bytesOf 111:Nat):Int)≤((room:Nat):Int)∧(n:Int)≤((room:Nat):Int):=by
 rw [mP]
 have:((room:Nat):Int)=140737488355328:=rfl
 omega
theorem uF (a b:Nat):∀i,a / (4294967296:Nat)^i+b / (4294967296:Nat)^i≤(a+b) / (4294967296:Nat)^i∧(a+b) / (4294967296:Nat)^i≤a / (4294967296:Nat)^i+b / (4294967296:Nat)^i+1
 |0=>by simp
 |i+1=>by
  have:=uF a b i
  rw [cu,cu,cu]
  omega
theorem sR {n v:Nat} (hn:n<2^40) (h:v<(4294967296:Nat)^n):jx [.sl 1 n (us (fd (4294967296:Nat) n v))]=some (one (nat (dg (4294967296:Nat) v))):=by
 have:=kS (l:=fd (4294967296:Nat) n v) (by rw [bG];exact hn) (fV (by decide) _ _)
 rw [jo (by decide),Nat.mod_eq_of_lt h] at this
 simp only [nat,bG] at this
 exact this
def SA (a b n m i:Nat) (e:List (Nat×AV)):St:=⟨(0, .pv (.sl 1 n (us (dg (4294967296:Nat) a))))::(1, .pv (.sl 1 m (us (dg (4294967296:Nat) b))))::(5, .bs 20 0 1 (n+1))::(6, .pv (ak ((a+b) / (4294967296:Nat)^i - a / (4294967296:Nat)^i - b / (4294967296:Nat)^i)))::(21, .pv (.sl 1 n (us (dg (4294967296:Nat) a))))::(22, .pv (iv n))::(23, .pv (iv i))::e,[(20,us (bY (4294967296:Nat) (n+1) i (a+b)))],[],[]⟩
theorem HC (k a b n m i:Nat) (hn:n=(dg (4294967296:Nat) a).length) (hm:m=(dg (4294967296:Nat) b).length) (hi:i<n) (hs:n<2^40):aP MD t30 k 97 0 (SA a b n m i [])=some (.normal,SA a b n m (i+1) []):=by
 have hx:=iJ (b:=(4294967296:Nat)) (v:=a) (by decide) (i:=i) (by omega)
 have hc:=uF a b i
 have s1:=cu a (4294967296:Nat) i
 have s2:=cu b (4294967296:Nat) i
 have s3:=cu (a+b) (4294967296:Nat) i
 have hstep:=iK (b:=(4294967296:Nat)) (n:=n+1) (i:=i) (v:=a+b) (by omega)
 have hsp:cg (us (bY (4294967296:Nat) (n+1) i (a+b))) (0+i* 1) [ak ((a+b) / (4294967296:Nat)^i%(4294967296:Nat))] (us (bY (4294967296:Nat) (n+1) (i+1) (a+b))):=eZ hstep (by rw [eu (by omega)];omega) (by omega)
 have hle:0+i* 1+(ak ((a+b) / (4294967296:Nat)^i%(4294967296:Nat))).cells.length≤(us (bY (4294967296:Nat) (n+1) i (a+b))).length:=by
  rw [cC,eu (by omega)];show _+1≤_;omega
 have gF:aL (us (dg (4294967296:Nat) a)) 1 (i:Int) n [ak (a / (4294967296:Nat)^i%(4294967296:Nat))]:=by rw [hn];exact cQ hx rfl
 unfold SA
 rw [s1,s2,s3]
 generalize hu:a / (4294967296:Nat)^i=u at*
 generalize hv:b / (4294967296:Nat)^i=v at*
 generalize hw:(a+b) / (4294967296:Nat)^i=w at*
 obtain ⟨x,hx0⟩:∃x,x=u%(4294967296:Nat):=⟨_,rfl⟩
 obtain ⟨y,hy0⟩:∃y,y=v%(4294967296:Nat):=⟨_,rfl⟩
 rw [←hx0] at gF
 obtain ⟨c,hc0⟩:∃c,c=w - u - v:=⟨_,rfl⟩
 rw [←hc0]
 by_cases zZ:i<m
 · have hy:=iJ (b:=(4294967296:Nat)) (v:=b) (by decide) (i:=i) (by omega)
   rw [hv,←hy0] at hy
   have hH:aL (us (dg (4294967296:Nat) b)) 1 (i:Int) m [ak y]:=by rw [hm];exact cQ hy rfl
   have e1:(x+y+c)%(4294967296:Nat)=w%(4294967296:Nat):=by omega
   have e2:(x+y+c) / (4294967296:Nat)=w / (4294967296:Nat) - u / (4294967296:Nat) - v / (4294967296:Nat):=by omega
   have bZ:=jM (a:=x) (b:=y) (c:=c) (by omega) (by omega) (by omega)
   rw [e1,e2] at bZ
   have key:=Q7 k n m i c x y (w%(4294967296:Nat)) (w / (4294967296:Nat) - u / (4294967296:Nat) - v / (4294967296:Nat)) (us (dg (4294967296:Nat) a)) (us (dg (4294967296:Nat) b)) (us (bY (4294967296:Nat) (n+1) i (a+b))) (us (bY (4294967296:Nat) (n+1) (i+1) (a+b)))
   exact an key ⟨decide_eq_true (by omega),gF,decide_eq_true (by omega),hH,bZ,⟨rfl,by omega⟩,hle,hsp,aR (by omega) (by omega),trivial⟩
 · have hy:=l7 (b:=(4294967296:Nat)) (v:=b) (by decide) (i:=i) (by omega)
   rw [hv] at hy
   have e1:(x+0+c)%(4294967296:Nat)=w%(4294967296:Nat):=by omega
   have e2:(x+0+c) / (4294967296:Nat)=w / (4294967296:Nat) - u / (4294967296:Nat) - v / (4294967296:Nat):=by omega
   have bZ:=jM (a:=x) (b:=0) (c:=c) (by omega) (by omega) (by omega)
   rw [e1,e2] at bZ
   have key:=Q8 k n m i c x (w%(4294967296:Nat)) (w / (4294967296:Nat) - u / (4294967296:Nat) - v / (4294967296:Nat)) (us (dg (4294967296:Nat) a)) (us (dg (4294967296:Nat) b)) (us (bY (4294967296:Nat) (n+1) i (a+b))) (us (bY (4294967296:Nat) (n+1) (i+1) (a+b)))
   exact an key ⟨decide_eq_true (by omega),gF,decide_eq_false (by omega),bZ,⟨rfl,by omega⟩,hle,hsp,aR (by omega) (by omega),trivial⟩
theorem BU (k a b n m:Nat) (hn:n=(dg (4294967296:Nat) a).length) (hm:m=(dg (4294967296:Nat) b).length) (hk:n<k) (hs:n<2^40):bg (aP MD t30 k 97 0) k (SA a b n m 0 [])=some (.exit 0,SA a b n m n [(24, .pv (bv false))]):=
 bN (f:=aP MD t30 k 97 0) (S:=fun i=>SA a b n m i []) (n:=n) (fun i hi=>HC k a b n m i hn hm hi hs)
  (an (Q9 k n m n ((a+b) / (4294967296:Nat)^n - a / (4294967296:Nat)^n - b / (4294967296:Nat)^n) (us (dg (4294967296:Nat) a)) (us (dg (4294967296:Nat) b)) (us (bY (4294967296:Nat) (n+1) n (a+b)))) ⟨decide_eq_false (by omega),trivial⟩) (by simp) k hk
theorem LY (a b:Nat) (ha:(dg (4294967296:Nat) a).length<2^39) (hb:(dg (4294967296:Nat) b).length<2^39):az P0 97 [nat (dg (4294967296:Nat) a),nat (dg (4294967296:Nat) b)] (one (nat (dg (4294967296:Nat) (a+b)))):=by
 have key:∀a b n m:Nat,n=(dg (4294967296:Nat) a).length→m=(dg (4294967296:Nat) b).length→n<2^39→m≤n→
   a+b<(4294967296:Nat)^(n+1)∧cg (us (bY (4294967296:Nat) (n+1) n (a+b))) (0+n* 1) [ak ((a+b) / (4294967296:Nat)^n - a / (4294967296:Nat)^n - b / (4294967296:Nat)^n)] (us (fd (4294967296:Nat) (n+1) (a+b)))∧0+n* 1+(ak ((a+b) / (4294967296:Nat)^n - a / (4294967296:Nat)^n - b / (4294967296:Nat)^n)).cells.length≤(us (bY (4294967296:Nat) (n+1) n (a+b))).length:=by
  intro a b n m hn hm hs hmn
  have h1:=cE (b:=(4294967296:Nat)) (n:=a) (by decide)
  have h2:=cE (b:=(4294967296:Nat)) (n:=b) (by decide)
  have h3:(4294967296:Nat)^(dg (4294967296:Nat) b).length≤(4294967296:Nat)^n:=Nat.pow_le_pow_right (by decide) (by omega)
  rw [←hn] at h1
  have hlt:a+b<(4294967296:Nat)^(n+1):=by rw [Nat.pow_succ];omega
  have z1:=l7 (b:=(4294967296:Nat)) (v:=a) (i:=n) (by decide) (by omega)
  have z2:=l7 (b:=(4294967296:Nat)) (v:=b) (i:=n) (by decide) (by omega)
  have hc:=uF a b n
  rw [z1,z2,Nat.sub_zero,Nat.sub_zero]
  rw [z1,z2] at hc
  have hstep:=iK (b:=(4294967296:Nat)) (n:=n+1) (i:=n) (v:=a+b) (by omega)
  rw [oK,Nat.mod_eq_of_lt (by omega)] at hstep
  refine ⟨hlt,eZ hstep (by rw [eu (by omega)];omega) (by omega), ?_⟩
  rw [cC,eu (by omega)];show _+1≤_;omega
 have fin:∀v n:Nat,cH (us (fd (4294967296:Nat) (n+1) v)) 0 ((n+1)* 1) (us (fd (4294967296:Nat) (n+1) v)):=fun v n=>je _ _ _ (by rw [List.drop_zero,Nat.mul_one,List.take_of_length_le (by rw [bG];omega)])
 obtain ⟨k,hk⟩:∃k,k=(dg (4294967296:Nat) a).length+(dg (4294967296:Nat) b).length+1:=⟨_,rfl⟩
 by_cases h:(dg (4294967296:Nat) a).length<(dg (4294967296:Nat) b).length
 · obtain ⟨k1,k2,k3⟩:=key b a _ _ rfl rfl hb (by omega)
   have lp:=BU k b a _ _ rfl rfl (by omega) (by omega)
   have z:=ja (n:=(dg (4294967296:Nat) b).length+1)
   rw [←jF (4294967296:Nat) ((dg (4294967296:Nat) b).length+1) (b+a)] at z
   have tr:=sR (n:=(dg (4294967296:Nat) b).length+1) (v:=b+a) (by omega) k1
   rw [Nat.add_comm a b]
   have c0:((b+a) / (4294967296:Nat)^0 - b / (4294967296:Nat)^0 - a / (4294967296:Nat)^0:Nat)=0:=by simp
   unfold SA at lp
   rw [c0] at lp
   exact ah af He (by rfl) (Uh k _ _ 0 _ _ _ (us (bY (4294967296:Nat) ((dg (4294967296:Nat) b).length+1) 0 (b+a))) _ (us (fd (4294967296:Nat) ((dg (4294967296:Nat) b).length+1) (b+a))) _ _) ⟨decide_eq_true (by omega),aR (by omega) (by omega),vO (by omega),decide_eq_false (by omega),z,lp,⟨rfl,by omega⟩,k3,k2,fin _ _,tr,trivial⟩
 · obtain ⟨k1,k2,k3⟩:=key a b _ _ rfl rfl ha (by omega)
   have lp:=BU k a b _ _ rfl rfl (by omega) (by omega)
   have z:=ja (n:=(dg (4294967296:Nat) a).length+1)
   rw [←jF (4294967296:Nat) ((dg (4294967296:Nat) a).length+1) (a+b)] at z
   have tr:=sR (n:=(dg (4294967296:Nat) a).length+1) (v:=a+b) (by omega) k1
   have c0:((a+b) / (4294967296:Nat)^0 - a / (4294967296:Nat)^0 - b / (4294967296:Nat)^0:Nat)=0:=by simp
   unfold SA at lp
   rw [c0] at lp
   exact ah af He (by rfl) (Ug k _ _ 0 _ _ _ (us (bY (4294967296:Nat) ((dg (4294967296:Nat) a).length+1) 0 (a+b))) _ (us (fd (4294967296:Nat) ((dg (4294967296:Nat) a).length+1) (a+b))) _ _) ⟨decide_eq_false (by omega),aR (by omega) (by omega),vO (by omega),decide_eq_false (by omega),z,lp,⟨rfl,by omega⟩,k3,k2,fin _ _,tr,trivial⟩
def SB (v b n m i:Nat) (e:List (Nat×AV)):St:=⟨(1, .pv (.sl 1 m (us (dg (4294967296:Nat) b))))::(5, .bs 12 0 1 n)::(6, .pv (ak ((b+v) / (4294967296:Nat)^i - b / (4294967296:Nat)^i - v / (4294967296:Nat)^i)))::(13, .pv (.sl 1 n (us (dg (4294967296:Nat) (b+v)))))::(14, .pv (iv n))::(15, .pv (iv i))::e,[(12,us (bY (4294967296:Nat) n i v))],[],[]⟩
theorem Iu (k v b n m i:Nat) (hn:n=(dg (4294967296:Nat) (b+v)).length) (hm:m=(dg (4294967296:Nat) b).length) (hi:i<n) (hs:n<2^40):aP MD t31 k 99 0 (SB v b n m i [])=some (.normal,SB v b n m (i+1) []):=by
 have hx:=iJ (b:=(4294967296:Nat)) (v:=b+v) (by decide) (i:=i) (by omega)
 have hc:=uF b v i
 have s1:=cu (b+v) (4294967296:Nat) i
 have s2:=cu b (4294967296:Nat) i
 have s3:=cu v (4294967296:Nat) i
 have hstep:=iK (b:=(4294967296:Nat)) (n:=n) (i:=i) (v:=v) (by omega)
 have hsp:cg (us (bY (4294967296:Nat) n i v)) (0+i* 1) [ak (v / (4294967296:Nat)^i%(4294967296:Nat))] (us (bY (4294967296:Nat) n (i+1) v)):=eZ hstep (by rw [eu (by omega)];omega) (by omega)
 have hle:0+i* 1+(ak (v / (4294967296:Nat)^i%(4294967296:Nat))).cells.length≤(us (bY (4294967296:Nat) n i v)).length:=by
  rw [cC,eu (by omega)];show _+1≤_;omega
 have gF:aL (us (dg (4294967296:Nat) (b+v))) 1 (i:Int) n [ak ((b+v) / (4294967296:Nat)^i%(4294967296:Nat))]:=by rw [hn];exact cQ hx rfl
 unfold SB
 rw [s1,s2,s3] at*
 generalize hu:(b+v) / (4294967296:Nat)^i=u at*
 generalize hw:b / (4294967296:Nat)^i=y0 at*
 generalize hv:v / (4294967296:Nat)^i=w at*
 obtain ⟨x,hx0⟩:∃x,x=u%(4294967296:Nat):=⟨_,rfl⟩
 obtain ⟨y,hy0⟩:∃y,y=y0%(4294967296:Nat):=⟨_,rfl⟩
 rw [←hx0] at gF
 obtain ⟨c,hc0⟩:∃c,c=u - y0 - w:=⟨_,rfl⟩
 rw [←hc0]
 have core:∀y',y'=y→(x+(4294967296:Nat)+(4294967296:Nat) - y' - c)%(4294967296:Nat)=w%(4294967296:Nat)∧(if x<y'+c then 1 else 0)=u / (4294967296:Nat) - y0 / (4294967296:Nat) - w / (4294967296:Nat):=by
  intro y' e
  subst e
  constructor
  · rw [Nat.sub_sub];omega
  · split<;>omega
 by_cases zZ:i<m
 · have hy:=iJ (b:=(4294967296:Nat)) (v:=b) (by decide) (i:=i) (by omega)
   rw [hw,←hy0] at hy
   have hH:aL (us (dg (4294967296:Nat) b)) 1 (i:Int) m [ak y]:=by rw [hm];exact cQ hy rfl
   have bZ:=n9 (a:=x) (b:=y) (c:=c) (by omega) (by omega) (by omega)
   rw [(core y rfl).1,(core y rfl).2] at bZ
   have key:=R1 k n m i c x y (w%(4294967296:Nat)) (u / (4294967296:Nat) - y0 / (4294967296:Nat) - w / (4294967296:Nat)) (us (dg (4294967296:Nat) (b+v))) (us (dg (4294967296:Nat) b)) (us (bY (4294967296:Nat) n i v)) (us (bY (4294967296:Nat) n (i+1) v))
   exact an key ⟨decide_eq_true (by omega),gF,decide_eq_true (by omega),hH,bZ,⟨rfl,by omega⟩,hle,hsp,aR (by omega) (by omega),trivial⟩
 · have hy:=l7 (b:=(4294967296:Nat)) (v:=b) (by decide) (i:=i) (by omega)
   rw [hw] at hy
   have bZ:=n9 (a:=x) (b:=0) (c:=c) (by omega) (by omega) (by omega)
   rw [(core 0 (by omega)).1,(core 0 (by omega)).2] at bZ
   have key:=R2 k n m i c x (w%(4294967296:Nat)) (u / (4294967296:Nat) - y0 / (4294967296:Nat) - w / (4294967296:Nat)) (us (dg (4294967296:Nat) (b+v))) (us (dg (4294967296:Nat) b)) (us (bY (4294967296:Nat) n i v)) (us (bY (4294967296:Nat) n (i+1) v))
   exact an key ⟨decide_eq_true (by omega),gF,decide_eq_false (by omega),bZ,⟨rfl,by omega⟩,hle,hsp,aR (by omega) (by omega),trivial⟩
theorem Lc (a b:Nat) (h:b≤a) (ha0:0<a) (ha:(dg (4294967296:Nat) a).length<2^39):az P0 99 [nat (dg (4294967296:Nat) a),nat (dg (4294967296:Nat) b)] (one (nat (dg (4294967296:Nat) (a - b)))):=by
 obtain ⟨v,rfl⟩:=Nat.exists_eq_add_of_le h
 rw [Nat.add_sub_cancel_left]
 obtain ⟨n,hn⟩:∃n,n=(dg (4294967296:Nat) (b+v)).length:=⟨_,rfl⟩
 have hn0:0<n:=by rw [hn,dz (by decide) ha0];simp
 have hlt:v<(4294967296:Nat)^n:=by have:=cE (b:=(4294967296:Nat)) (n:=b+v) (by decide);rw [←hn] at this;omega
 have lp:=bN (f:=aP MD t31 (n+1) 99 0) (S:=fun i=>SB v b n (dg (4294967296:Nat) b).length i []) (n:=n) (fun i hi=>Iu (n+1) v b n _ i hn rfl hi (by omega))
  (an (R3 (n+1) n (dg (4294967296:Nat) b).length n ((b+v) / (4294967296:Nat)^n - b / (4294967296:Nat)^n - v / (4294967296:Nat)^n) (us (dg (4294967296:Nat) (b+v))) (us (dg (4294967296:Nat) b)) (us (bY (4294967296:Nat) n n v))) ⟨decide_eq_false (by omega),trivial⟩) (by simp) (n+1) (by omega)
 have c0:((b+v) / (4294967296:Nat)^0 - b / (4294967296:Nat)^0 - v / (4294967296:Nat)^0:Nat)=0:=by simp
 unfold SB at lp
 rw [c0] at lp
 have z:=ja (n:=n)
 rw [←jF (4294967296:Nat) n v] at z
 rw [oK] at lp
 have tr:=sR (n:=n) (v:=v) (by omega) hlt
 have fin:cH (us (fd (4294967296:Nat) n v)) 0 (n* 1) (us (fd (4294967296:Nat) n v)):=je _ _ _ (by rw [List.drop_zero,Nat.mul_one,List.take_of_length_le (by rw [bG];omega)])
 have:=ah af OL (by rfl) (WW (n+1) n _ 0 _ (us (dg (4294967296:Nat) (b+v))) _ _ _ (us []) _ _) ⟨vO (by omega),decide_eq_false (by omega),z,lp,fin,tr,trivial⟩
 unfold nat
 rw [←hn]
 exact this
end Go.Proofs.YtibbgjafjhcemaaDoor.Cul
namespace Go.Proofs.YtibbgjafjhcemaaDoor.Cul
open Go Go.RowKit
noncomputable def t32:Cl:=bI [(111,qN),(122,FV)]
theorem X0 (k p n x y h l a s c b s2 c2 i:Nat) (es jn fE g7:List PV):mq MD t32 k 113 [.g es 0 1 n, .p (iv p), .p (ak x), .p (ak y)] [.r (one (.aG [ak h,ak l])), .j 23 p, .e 24 (ak a), .r (one (.aG [ak s,ak c])), .j 29 p, .s jn, .i 33 (p+1:Nat), .i 36 (p+1:Nat), .j 37 (p+1), .e 38 (ak b), .r (one (.aG [ak s2,ak c2])), .j 44 (p+1), .s fE, .i 46 (p+2:Nat), .l (.exit 0) ⟨[(0, .bs gk 0 1 n),(10, .pv (ak 0)),(11, .pv (iv i)),(48, .pv (bv false))],[(gk,g7)],[],[]⟩]=
 some ((MR.pv (PV.aG []),g7),[g7.all cJ=true,g7.length=es.length,aa t32 122 [PV.lit (Value.int IntKind.u32 (↑x:Int)),PV.lit (Value.int IntKind.u32 (↑y:Int))] (RV.mk (PV.aG [PV.lit (Value.int IntKind.u32 (↑h:Int)),PV.lit (Value.int IntKind.u32 (↑l:Int))]) none),aK (↑p:Int) n p,Ld MD.P 111 es (0+p* 1) (PV.lit (Value.int IntKind.u32 (↑a:Int))),aa t32 111 [PV.lit (Value.int IntKind.u32 (↑a:Int)),PV.lit (Value.int IntKind.u32 (↑l:Int)),PV.lit (Value.int IntKind.u32 (0:Int))] (RV.mk (PV.aG [PV.lit (Value.int IntKind.u32 (↑s:Int)),PV.lit (Value.int IntKind.u32 (↑c:Int))]) none),aK (↑p:Int) n p,0+p* 1+1≤es.length,cg es (0+p* 1) [PV.lit (Value.int IntKind.u32 (↑s:Int))] jn,IntKind.i64.wrap ((↑p:Int)+(1:Int))=(↑(p+(1:Nat)):Int),IntKind.i64.wrap ((↑p:Int)+(1:Int))=(↑(p+(1:Nat)):Int),aK (↑(p+(1:Nat)):Int) n (p+1),Ld MD.P 111 jn (0+(p+1)* 1) (PV.lit (Value.int IntKind.u32 (↑b:Int))),aa t32 111 [PV.lit (Value.int IntKind.u32 (↑b:Int)),PV.lit (Value.int IntKind.u32 (↑h:Int)),PV.lit (Value.int IntKind.u32 (↑c:Int))] (RV.mk (PV.aG [PV.lit (Value.int IntKind.u32 (↑s2:Int)),PV.lit (Value.int IntKind.u32 (↑c2:Int))]) none),aK (↑(p+(1:Nat)):Int) n (p+1),0+(p+1)* 1+1≤jn.length,cg jn (0+(p+1)* 1) [PV.lit (Value.int IntKind.u32 (↑s2:Int))] fE,IntKind.i64.wrap ((↑p:Int)+(2:Int))=(↑(p+(2:Nat)):Int),aW MD t32 k (113:Nat) (0:Nat) (St.mk [(0,AV.bs 1000000 0 1 n),(10,AV.pv (PV.lit (Value.int IntKind.u32 (↑c2:Int)))),(11,AV.pv (PV.lit (Value.int IntKind.i64 (↑(p+(2:Nat)):Int))))] [(1000000,fE)] [] []) (Xt.exit 0) (St.mk [(0,AV.bs 1000000 0 1 n),(10,AV.pv (PV.lit (Value.int IntKind.u32 (0:Int)))),(11,AV.pv (PV.lit (Value.int IntKind.i64 (↑i:Int)))),(48,AV.pv (PV.lit (Value.bool false)))] [(1000000,g7)] [] [])]):=by kernel_rfl
theorem Ti (k n i c a s d:Nat) (es es':List PV):aA MD t32 k 113 0 ⟨[(0, .bs gk 0 1 n),(10, .pv (ak c)),(11, .pv (iv i))],[(gk,es)],[],[]⟩ [.c true, .j 56 i, .e 57 (ak a), .r (one (.aG [ak s,ak d])), .j 62 i, .s es', .i 50 (i+1:Nat)]=
 some ((Xt.normal,St.mk [(0,AV.bs 1000000 0 1 n),(10,AV.pv (PV.lit (Value.int IntKind.u32 (↑d:Int)))),(11,AV.pv (PV.lit (Value.int IntKind.i64 (↑(i+(1:Nat)):Int))))] [(1000000,es')] [] []),[],[((↑c:Int) !=(0:Int))=true,aK (↑i:Int) n i,Ld MD.P 111 es (0+i* 1) (PV.lit (Value.int IntKind.u32 (↑a:Int))),aa t32 111 [PV.lit (Value.int IntKind.u32 (↑a:Int)),PV.lit (Value.int IntKind.u32 (0:Int)),PV.lit (Value.int IntKind.u32 (↑c:Int))] (RV.mk (PV.aG [PV.lit (Value.int IntKind.u32 (↑s:Int)),PV.lit (Value.int IntKind.u32 (↑d:Int))]) none),aK (↑i:Int) n i,0+i* 1+1≤es.length,cg es (0+i* 1) [PV.lit (Value.int IntKind.u32 (↑s:Int))] es',IntKind.i64.wrap ((↑i:Int)+(1:Int))=(↑(i+(1:Nat)):Int)]):=by kernel_rfl
theorem Tj (k n i c:Nat) (es:List PV):aA MD t32 k 113 0 ⟨[(0, .bs gk 0 1 n),(10, .pv (ak c)),(11, .pv (iv i))],[(gk,es)],[],[]⟩ [.c false]=
 some ((Xt.exit 0,St.mk [(0,AV.bs 1000000 0 1 n),(10,AV.pv (PV.lit (Value.int IntKind.u32 (↑c:Int)))),(11,AV.pv (PV.lit (Value.int IntKind.i64 (↑i:Int)))),(48,AV.pv (PV.lit (Value.bool false)))] [(1000000,es)] [] []),[],[((↑c:Int) !=(0:Int))=false]):=by kernel_rfl
theorem OM:aI MD.P t32:=aH (aj (au fun x h=>tT x.1 x.2.1 x.2.2 h.1 h.2.1 h.2.2) (aj (au fun x h=>IC x.1 x.2 h.1 h.2) aE))
theorem FW {a b:Nat} (ha:a<(4294967296:Nat)) (hb:b<(4294967296:Nat)):FV [ak a,ak b]=some (one (dD (a* b / (4294967296:Nat)) (a* b%(4294967296:Nat)))):=
 aM (a:=(a,b)) (enc:=fun x:Nat×Nat=>[ak x.1,ak x.2]) (fun a b e=>by
  simp only [List.cons.injEq,and_true] at e
  obtain ⟨a1,a2⟩:=a;obtain ⟨b1,b2⟩:=b
  simp only at e
  rw [ij e.1,ij e.2]) ⟨ha,hb⟩
def P5 (n c i:Nat) (W:List Nat) (e:List (Nat×AV)):St:=⟨(0, .bs gk 0 1 n)::(10, .pv (ak c))::(11, .pv (iv i))::e,[(gk,us W)],[],[]⟩
theorem Ef {W:List Nat} {i n s:Nat} (hl:W.length=n) (hi:i<n):0+i* 1+(ak s).cells.length≤(us W).length:=by
 rw [cC,hl];show _+1≤_;omega
theorem CD (k n T:Nat) (hn:n<2^41) (hT:T<(4294967296:Nat)^n):∀(d i c:Nat) (W:List Nat),i+d=n→W.length=n→bf (4294967296:Nat) W→c<(4294967296:Nat)→val (4294967296:Nat) W+(4294967296:Nat)^i* c=T→
  ∃i2,bg (aP MD t32 k 113 0) (d+1) (P5 n c i W [])=some (.exit 0,P5 n 0 i2 (fd (4294967296:Nat) n T) [(48, .pv (bv false))])
 |d,i,0,W,hi,hl,hd,hc,he=>by
  have hw:W=fd (4294967296:Nat) n T:=jc (by omega) hd hl (by omega)
  subst hw
  exact ⟨i,bP (show 1≤d+1 by omega) (aV (an (Tj k n i 0 _) ⟨rfl,trivial⟩) (by simp))⟩
 |0,i,c+1,W,hi,hl,hd,hc,he=>by
  exfalso
  have:i=n:=by omega
  subst this
  have:(4294967296:Nat)^i* 1≤(4294967296:Nat)^i* (c+1):=Nat.mul_le_mul_left _ (by omega)
  omega
 |d+1,i,c+1,W,hi,hl,hd,hc,he=>by
  obtain ⟨a,ha⟩:=get_some (l:=W) (i:=i) (by omega)
  have hab:=cN hd ha
  have hv:=gM (b:=(4294967296:Nat)) ha ((a+0+(c+1))%(4294967296:Nat))
  have bZ:=jM (a:=a) (b:=0) (c:=c+1) hab (by omega) hc
  obtain ⟨s,hs⟩:∃s,s=(a+0+(c+1))%(4294967296:Nat):=⟨_,rfl⟩
  obtain ⟨c',zS⟩:∃c',c'=(a+0+(c+1)) / (4294967296:Nat):=⟨_,rfl⟩
  rw [←hs] at hv bZ
  rw [←zS] at bZ
  have nS:val (4294967296:Nat) (W.set i s)+(4294967296:Nat)^(i+1)* c'=T:=by
   have k1:(4294967296:Nat)^(i+1)* c'=(4294967296:Nat)^i* ((4294967296:Nat)* c'):=by rw [Nat.pow_succ,Nat.mul_assoc]
   have k2:(4294967296:Nat)^i* s+(4294967296:Nat)^i* ((4294967296:Nat)* c')=(4294967296:Nat)^i* a+(4294967296:Nat)^i* (c+1):=by
    rw [←Nat.mul_add,←Nat.mul_add];congr 1;omega
   rw [k1]
   omega
  obtain ⟨i2,h2⟩:=CD k n T hn hT d (i+1) c' (W.set i s) (by omega) (by simpa using hl) (ia hd (by omega) i) (by omega) nS
  refine ⟨i2,bn (an (Ti k n i (c+1) a s c' _ (us (W.set i s))) ⟨?_,⟨rfl,by omega⟩,iB ha (by omega),bZ,⟨rfl,by omega⟩,Ef (s:=s) hl (by omega),eZ rfl (by omega) (by omega),aR (by omega) (by omega),trivial⟩) h2⟩
  simp;omega
theorem Oi (W:List Nat) (p n x y:Nat) (hn:n<2^41) (hl:W.length=n) (hd:bf (4294967296:Nat) W) (hx:x<(4294967296:Nat)) (hy:y<(4294967296:Nat)) (hp:p+2≤n) (hT:val (4294967296:Nat) W+(4294967296:Nat)^p* (x* y)<(4294967296:Nat)^n):
  jb P0 113 [.g (us W) 0 1 n, .p (iv p), .p (ak x), .p (ak y)] (.pv (.aG [])) (us (fd (4294967296:Nat) n (val (4294967296:Nat) W+(4294967296:Nat)^p* (x* y)))):=by
 obtain ⟨a,ha⟩:=get_some (l:=W) (i:=p) (by omega)
 have hab:=cN hd ha
 have hh:x* y / (4294967296:Nat)<(4294967296:Nat):=Nat.div_lt_of_lt_mul (Nat.mul_lt_mul'' hx hy)
 have hlo:x* y%(4294967296:Nat)<(4294967296:Nat):=Nat.mod_lt _ (by decide)
 have hxy:=Nat.div_add_mod (x* y) (4294967296:Nat)
 have c1:=FW hx hy
 obtain ⟨h,Qm⟩:∃h,h=x* y / (4294967296:Nat):=⟨_,rfl⟩
 obtain ⟨l,JO⟩:∃l,l=x* y%(4294967296:Nat):=⟨_,rfl⟩
 obtain ⟨z,Ny⟩:∃z,z=x* y:=⟨_,rfl⟩
 rw [←Qm,←JO] at c1 hxy
 rw [←Qm] at hh
 rw [←JO] at hlo
 rw [←Ny] at hT hxy ⊢
 have c2:=jM (a:=a) (b:=l) (c:=0) hab hlo (by omega)
 have v1:=gM (b:=(4294967296:Nat)) ha ((a+l+0)%(4294967296:Nat))
 obtain ⟨s,hs⟩:∃s,s=(a+l+0)%(4294967296:Nat):=⟨_,rfl⟩
 obtain ⟨c,hc⟩:∃c,c=(a+l+0) / (4294967296:Nat):=⟨_,rfl⟩
 rw [←hs] at c2 v1
 rw [←hc] at c2
 have oO:bf (4294967296:Nat) (W.set p s):=ia hd (by omega) p
 obtain ⟨b,hb⟩:=get_some (l:=W.set p s) (i:=p+1) (by simp;omega)
 have MH:=cN oO hb
 have c3:=jM (a:=b) (b:=h) (c:=c) MH hh (by omega)
 have v2:=gM (b:=(4294967296:Nat)) hb ((b+h+c)%(4294967296:Nat))
 obtain ⟨s2,js⟩:∃s2,s2=(b+h+c)%(4294967296:Nat):=⟨_,rfl⟩
 obtain ⟨c4,MJ⟩:∃c4,c4=(b+h+c) / (4294967296:Nat):=⟨_,rfl⟩
 rw [←js] at c3 v2
 rw [←MJ] at c3
 have xS:(W.set p s).length=n:=by simpa using hl
 have he:val (4294967296:Nat) ((W.set p s).set (p+1) s2)+(4294967296:Nat)^(p+2)* c4=val (4294967296:Nat) W+(4294967296:Nat)^p* z:=by
  have k0:(4294967296:Nat)^(p+2)=(4294967296:Nat)^p* ((4294967296:Nat)* (4294967296:Nat)):=by rw [Nat.pow_succ,Nat.pow_succ,Nat.mul_assoc]
  have k1:(4294967296:Nat)^(p+1)=(4294967296:Nat)^p* (4294967296:Nat):=Nat.pow_succ ..
  rw [k1] at v2
  rw [k0]
  simp only [Nat.mul_assoc] at v2 ⊢
  have k2:(4294967296:Nat)^p* ((4294967296:Nat)* ((4294967296:Nat)* c4))+(4294967296:Nat)^p* ((4294967296:Nat)* s2)=(4294967296:Nat)^p* ((4294967296:Nat)* b)+(4294967296:Nat)^p* ((4294967296:Nat)* h)+(4294967296:Nat)^p* ((4294967296:Nat)* c):=by
   have e:(4294967296:Nat)* ((4294967296:Nat)* c4)+(4294967296:Nat)* s2=(4294967296:Nat)* b+(4294967296:Nat)* h+(4294967296:Nat)* c:=by omega
   have e2:=congrArg (fun t=>(4294967296:Nat)^p* t) e
   simp only [Nat.mul_add] at e2
   exact e2
  have k3:(4294967296:Nat)^p* s+(4294967296:Nat)^p* ((4294967296:Nat)* c)=(4294967296:Nat)^p* a+(4294967296:Nat)^p* l:=by
   rw [←Nat.mul_add,←Nat.mul_add];congr 1;omega
  have k4:(4294967296:Nat)^p* z=(4294967296:Nat)^p* ((4294967296:Nat)* h)+(4294967296:Nat)^p* l:=by rw [←Nat.mul_add,hxy]
  rw [k4]
  omega
 obtain ⟨i2,lp⟩:=CD (n+1) n (val (4294967296:Nat) W+(4294967296:Nat)^p* z) hn hT (n - (p+2)) (p+2) c4 ((W.set p s).set (p+1) s2) (by omega) (by simpa using hl) (ia oO (by omega) _) (by omega) he
 have lp:=bP (show n - (p+2)+1≤n+1 by omega) lp
 refine jJ af OM (by rfl) (X0 (n+1) p n x y h l a s c b s2 c4 i2 (us W) (us (W.set p s)) (us ((W.set p s).set (p+1) s2)) (us (fd (4294967296:Nat) n (val (4294967296:Nat) W+(4294967296:Nat)^p* z)))) ⟨FO (fun _=>rfl) _,by rw [cC,cC,bG,hl],c1,⟨rfl,by omega⟩,iB ha (by omega),c2,⟨rfl,by omega⟩,Ef (s:=s) hl (by omega),eZ rfl (by omega) (by omega),aR (by omega) (by omega),aR (by omega) (by omega),⟨rfl,by omega⟩,iB hb (by omega),c3,⟨rfl,by omega⟩,Ef (s:=s2) xS (by omega),eZ rfl (by omega) (by omega),aR (by omega) (by omega),lp,trivial⟩
noncomputable def IU:List MA→Option (MR×List PV):=yz (fun x:List Nat×Nat×Nat×Nat=>(x.1.length<2^41∧bf (4294967296:Nat) x.1)∧(x.2.2.1<(4294967296:Nat)∧x.2.2.2<(4294967296:Nat))∧x.2.1+2≤x.1.length∧val (4294967296:Nat) x.1+(4294967296:Nat)^x.2.1* (x.2.2.1* x.2.2.2)<(4294967296:Nat)^x.1.length) (fun x=>[.g (us x.1) 0 1 x.1.length, .p (iv x.2.1), .p (ak x.2.2.1), .p (ak x.2.2.2)]) (fun x=>(.pv (.aG []),us (fd (4294967296:Nat) x.1.length (val (4294967296:Nat) x.1+(4294967296:Nat)^x.2.1* (x.2.2.1* x.2.2.2)))))
theorem Lx:∀ms r cs',IU ms=some (r,cs')→jb P0 113 ms r cs':=v7 fun x h=>Oi x.1 x.2.1 x.1.length x.2.2.1 x.2.2.2 h.1.1 rfl h.1.2 h.2.1.1 h.2.1.2 h.2.2.1 h.2.2.2
theorem Lw {W:List Nat} {p x y:Nat} (hn:W.length<2^41) (hd:bf (4294967296:Nat) W) (hx:x<(4294967296:Nat)) (hy:y<(4294967296:Nat)) (hp:p+2≤W.length) (hT:val (4294967296:Nat) W+(4294967296:Nat)^p* (x* y)<(4294967296:Nat)^W.length):IU [.g (us W) 0 1 W.length, .p (iv p), .p (ak x), .p (ak y)]=some (.pv (.aG []),us (fd (4294967296:Nat) W.length (val (4294967296:Nat) W+(4294967296:Nat)^p* (x* y)))):=
 v5 (a:=(W,p,x,y)) (enc:=fun x:List Nat×Nat×Nat×Nat=>[.g (us x.1) 0 1 x.1.length, .p (iv x.2.1), .p (ak x.2.2.1), .p (ak x.2.2.2)]) (fun a b e=>by
  obtain ⟨a1,a2,a3,a4⟩:=a;obtain ⟨b1,b2,b3,b4⟩:=b
  simp only [List.cons.injEq,and_true,MA.g.injEq,MA.p.injEq] at e
  obtain ⟨⟨e1,_⟩,e2,e3,e4⟩:=e
  have e2:=dA e2
  obtain rfl:a2=b2:=by omega
  rw [wD e1,ij e3,ij e4]) ⟨⟨hn,hd⟩,⟨hx,hy⟩,hp,hT⟩
end Go.Proofs.YtibbgjafjhcemaaDoor.Cul
namespace Go.Proofs.YtibbgjafjhcemaaDoor.Cul
open Go Go.RowKit
noncomputable def t33:Cl:=xy [(95,jx)] [(113,IU)] []
theorem Xo (k n m L:Nat) (cs ds cs0 es gs:List PV) (p:PV):ay MD t33 k 100 [.sl 1 n cs, .sl 1 m ds] [.i 15 (n+m:Nat), .i 16 (L+1:Nat), .c false, .f cs0, .l (.exit 0) ⟨[(1, .pv (.sl 1 m ds)),(5, .bs 17 0 1 (L+1)),(6, .mv 113 17 0 1 (L+1)),(20, .pv (.sl 1 n cs)),(21, .pv (iv n)),(22, .pv (iv n)),(23, .pv (bv false))],[(17,es)],[],[]⟩, .f gs, .r (one p)]=
 some (RV.mk p none,[IntKind.i64.wrap ((↑n:Int)+(↑m:Int))=(↑(n+m):Int),IntKind.i64.wrap ((↑(n+m):Int)+(1:Int))=(↑(L+(1:Nat)):Int),(0:Int)≤(↑(L+(1:Nat)):Int)∧(↑(L+(1:Nat)):Int)≤(↑(L+(1:Nat)):Int)∧(↑(L+(1:Nat)):Int)* (↑(MD.P.bytesOf (111:Nat)):Int)≤(↑room:Int)∧(↑(L+(1:Nat)):Int)≤(↑room:Int),decide ((↑(L+(1:Nat)):Int)=(0:Int))=false,fP [PV.lit (Value.int IntKind.u32 (0:Int))] (↑(L+(1:Nat)):Int).toNat cs0,aW MD t33 k (100:Nat) (0:Nat) (St.mk [(1,AV.pv (PV.sl 1 m ds)),(5,AV.bs 17 0 1 (↑(L+(1:Nat)):Int).toNat),(6,AV.mv 113 17 0 1 (↑(L+(1:Nat)):Int).toNat),(20,AV.pv (PV.sl 1 n cs)),(21,AV.pv (PV.lit (Value.int IntKind.i64 (↑n:Int)))),(22,AV.pv (PV.lit (Value.int IntKind.i64 (0:Int))))] [(17,cs0)] [] []) (Xt.exit 0) (St.mk [(1,AV.pv (PV.sl 1 m ds)),(5,AV.bs 17 0 1 (L+1)),(6,AV.mv 113 17 0 1 (L+1)),(20,AV.pv (PV.sl 1 n cs)),(21,AV.pv (PV.lit (Value.int IntKind.i64 (↑n:Int)))),(22,AV.pv (PV.lit (Value.int IntKind.i64 (↑n:Int)))),(23,AV.pv (PV.lit (Value.bool false)))] [(17,es)] [] []),cH es 0 ((L+1)* 1) gs,aa t33 95 [PV.sl 1 (L+1) gs] (RV.mk p none)]):=by kernel_rfl
theorem Sb (k n m L i x:Nat) (cs ds es es':List PV):aA MD t33 k 100 0 ⟨[(1, .pv (.sl 1 m ds)),(5, .bs 17 0 1 L),(6, .mv 113 17 0 1 L),(20, .pv (.sl 1 n cs)),(21, .pv (iv n)),(22, .pv (iv i))],[(17,es)],[],[]⟩ [.c true, .a 25 [ak x], .l (.exit 2) ⟨[(1, .pv (.sl 1 m ds)),(5, .bs 17 0 1 L),(6, .mv 113 17 0 1 L),(7, .pv (iv i)),(8, .pv (ak x)),(20, .pv (.sl 1 n cs)),(21, .pv (iv n)),(22, .pv (iv i)),(27, .pv (.sl 1 m ds)),(28, .pv (iv m)),(29, .pv (iv m)),(30, .pv (bv false))],[(17,es')],[],[]⟩, .i 42 (i+1:Nat)]=
 some ((Xt.normal,St.mk [(1,AV.pv (PV.sl 1 m ds)),(5,AV.bs 17 0 1 L),(6,AV.mv 113 17 0 1 L),(20,AV.pv (PV.sl 1 n cs)),(21,AV.pv (PV.lit (Value.int IntKind.i64 (↑n:Int)))),(22,AV.pv (PV.lit (Value.int IntKind.i64 (↑(i+(1:Nat)):Int))))] [(17,es')] [] []),[],[decide ((↑i:Int)<(↑n:Int))=true,aL cs 1 (↑i:Int) n [PV.lit (Value.int IntKind.u32 (↑x:Int))],aW MD t33 k (100:Nat) (1:Nat) (St.mk [(1,AV.pv (PV.sl 1 m ds)),(5,AV.bs 17 0 1 L),(6,AV.mv 113 17 0 1 L),(7,AV.pv (PV.lit (Value.int IntKind.i64 (↑i:Int)))),(8,AV.pv (PV.lit (Value.int IntKind.u32 (↑x:Int)))),(20,AV.pv (PV.sl 1 n cs)),(21,AV.pv (PV.lit (Value.int IntKind.i64 (↑n:Int)))),(22,AV.pv (PV.lit (Value.int IntKind.i64 (↑i:Int)))),(27,AV.pv (PV.sl 1 m ds)),(28,AV.pv (PV.lit (Value.int IntKind.i64 (↑m:Int)))),(29,AV.pv (PV.lit (Value.int IntKind.i64 (0:Int))))] [(17,es)] [] []) (Xt.exit 2) (St.mk [(1,AV.pv (PV.sl 1 m ds)),(5,AV.bs 17 0 1 L),(6,AV.mv 113 17 0 1 L),(7,AV.pv (PV.lit (Value.int IntKind.i64 (↑i:Int)))),(8,AV.pv (PV.lit (Value.int IntKind.u32 (↑x:Int)))),(20,AV.pv (PV.sl 1 n cs)),(21,AV.pv (PV.lit (Value.int IntKind.i64 (↑n:Int)))),(22,AV.pv (PV.lit (Value.int IntKind.i64 (↑i:Int)))),(27,AV.pv (PV.sl 1 m ds)),(28,AV.pv (PV.lit (Value.int IntKind.i64 (↑m:Int)))),(29,AV.pv (PV.lit (Value.int IntKind.i64 (↑m:Int)))),(30,AV.pv (PV.lit (Value.bool false)))] [(17,es')] [] []),IntKind.i64.wrap ((↑i:Int)+(1:Int))=(↑(i+(1:Nat)):Int)]):=by kernel_rfl
theorem Sc (k n m L i:Nat) (cs ds es:List PV):aA MD t33 k 100 0 ⟨[(1, .pv (.sl 1 m ds)),(5, .bs 17 0 1 L),(6, .mv 113 17 0 1 L),(20, .pv (.sl 1 n cs)),(21, .pv (iv n)),(22, .pv (iv i))],[(17,es)],[],[]⟩ [.c false]=
 some ((Xt.exit 0,St.mk [(1,AV.pv (PV.sl 1 m ds)),(5,AV.bs 17 0 1 L),(6,AV.mv 113 17 0 1 L),(20,AV.pv (PV.sl 1 n cs)),(21,AV.pv (PV.lit (Value.int IntKind.i64 (↑n:Int)))),(22,AV.pv (PV.lit (Value.int IntKind.i64 (↑i:Int)))),(23,AV.pv (PV.lit (Value.bool false)))] [(17,es)] [] []),[],[decide ((↑i:Int)<(↑n:Int))=false]):=by kernel_rfl
theorem Sd (k n m L i j x y:Nat) (cs ds es es':List PV):aA MD t33 k 100 1 ⟨[(1, .pv (.sl 1 m ds)),(5, .bs 17 0 1 L),(6, .mv 113 17 0 1 L),(7, .pv (iv i)),(8, .pv (ak x)),(20, .pv (.sl 1 n cs)),(21, .pv (iv n)),(22, .pv (iv i)),(27, .pv (.sl 1 m ds)),(28, .pv (iv m)),(29, .pv (iv j))],[(17,es)],[],[]⟩ [.c true, .a 32 [ak y], .i 37 (i+j:Nat), .m (.pv (.aG [])) es', .i 41 (j+1:Nat)]=
 some ((Xt.normal,St.mk [(1,AV.pv (PV.sl 1 m ds)),(5,AV.bs 17 0 1 L),(6,AV.mv 113 17 0 1 L),(7,AV.pv (PV.lit (Value.int IntKind.i64 (↑i:Int)))),(8,AV.pv (PV.lit (Value.int IntKind.u32 (↑x:Int)))),(20,AV.pv (PV.sl 1 n cs)),(21,AV.pv (PV.lit (Value.int IntKind.i64 (↑n:Int)))),(22,AV.pv (PV.lit (Value.int IntKind.i64 (↑i:Int)))),(27,AV.pv (PV.sl 1 m ds)),(28,AV.pv (PV.lit (Value.int IntKind.i64 (↑m:Int)))),(29,AV.pv (PV.lit (Value.int IntKind.i64 (↑(j+(1:Nat)):Int))))] [(17,es')] [] []),[],[decide ((↑j:Int)<(↑m:Int))=true,aL ds 1 (↑j:Int) m [PV.lit (Value.int IntKind.u32 (↑y:Int))],IntKind.i64.wrap ((↑i:Int)+(↑j:Int))=(↑(i+j):Int),eH t33 113 [MA.g es 0 1 L,MA.p (PV.lit (Value.int IntKind.i64 (↑(i+j):Int))),MA.p (PV.lit (Value.int IntKind.u32 (↑x:Int))),MA.p (PV.lit (Value.int IntKind.u32 (↑y:Int)))] (MR.pv (PV.aG [])) es',IntKind.i64.wrap ((↑j:Int)+(1:Int))=(↑(j+(1:Nat)):Int)]):=by kernel_rfl
theorem Se (k n m L i j x:Nat) (cs ds es:List PV):aA MD t33 k 100 1 ⟨[(1, .pv (.sl 1 m ds)),(5, .bs 17 0 1 L),(6, .mv 113 17 0 1 L),(7, .pv (iv i)),(8, .pv (ak x)),(20, .pv (.sl 1 n cs)),(21, .pv (iv n)),(22, .pv (iv i)),(27, .pv (.sl 1 m ds)),(28, .pv (iv m)),(29, .pv (iv j))],[(17,es)],[],[]⟩ [.c false]=
 some ((Xt.exit 2,St.mk [(1,AV.pv (PV.sl 1 m ds)),(5,AV.bs 17 0 1 L),(6,AV.mv 113 17 0 1 L),(7,AV.pv (PV.lit (Value.int IntKind.i64 (↑i:Int)))),(8,AV.pv (PV.lit (Value.int IntKind.u32 (↑x:Int)))),(20,AV.pv (PV.sl 1 n cs)),(21,AV.pv (PV.lit (Value.int IntKind.i64 (↑n:Int)))),(22,AV.pv (PV.lit (Value.int IntKind.i64 (↑i:Int)))),(27,AV.pv (PV.sl 1 m ds)),(28,AV.pv (PV.lit (Value.int IntKind.i64 (↑m:Int)))),(29,AV.pv (PV.lit (Value.int IntKind.i64 (↑j:Int)))),(30,AV.pv (PV.lit (Value.bool false)))] [(17,es)] [] []),[],[decide ((↑j:Int)<(↑m:Int))=false]):=by kernel_rfl
theorem ON:aI MD.P t33:=sQ (aj (au fun l h=>mI l h.1 h.2) aE) (qh Lx oU)
theorem Ca (b:Nat):∀n,fd b n 0=List.replicate n 0
 |0=>rfl
 |n+1=>by
  have h:fd b (n+1) 0=0%b::fd b n (0 / b):=rfl
  rw [h,Nat.zero_mod,Nat.zero_div,Ca b n];rfl
def iE (b x y i j:Nat):Nat:=x%b^i* y+x / b^i%b* (y%b^j)* b^i
theorem IQ (b x y i j:Nat):iE b x y i (j+1)=iE b x y i j+b^(i+j)* (x / b^i%b* (y / b^j%b)):=by
 unfold iE
 rw [Nat.mod_pow_succ,Nat.mul_add,Nat.add_mul,Nat.pow_add,Nat.add_assoc]
 congr 2
 ac_rfl
theorem IP (b x y i m:Nat) (h:y<b^m):iE b x y i m=iE b x y (i+1) 0:=by
 unfold iE
 rw [Nat.mod_eq_of_lt h,Nat.pow_zero,Nat.mod_one,Nat.mul_zero,Nat.zero_mul,Nat.add_zero,Nat.mod_pow_succ,Nat.add_mul]
 congr 1
 ac_rfl
theorem Gb (b x y i j:Nat):iE b x y i j≤x* y:=by
 have h:x%b^(i+1)≤x:=Nat.mod_le _ _
 have h2:iE b x y i j≤x%b^(i+1)* y:=by
  unfold iE
  rw [Nat.mod_pow_succ,Nat.add_mul]
  have:x / b^i%b* (y%b^j)* b^i≤x / b^i%b* y* b^i:=Nat.mul_le_mul_right _ (Nat.mul_le_mul_left _ (Nat.mod_le _ _))
  have e:b^i* (x / b^i%b)* y=x / b^i%b* y* b^i:=by ac_rfl
  rw [e];omega
 exact Nat.le_trans h2 (Nat.mul_le_mul_right _ h)
theorem IS (b x y:Nat):iE b x y 0 0=0:=by
 unfold iE
 simp [Nat.mod_one]
theorem Lu (b x y n:Nat) (h:x<b^n):iE b x y n 0=x* y:=by
 unfold iE
 rw [Nat.mod_eq_of_lt h,Nat.pow_zero,Nat.mod_one,Nat.mul_zero,Nat.zero_mul,Nat.add_zero]
def SO (a b n m L i:Nat) (e:List (Nat×AV)):St:=⟨(1, .pv (.sl 1 m (us (dg (4294967296:Nat) b))))::(5, .bs 17 0 1 L)::(6, .mv 113 17 0 1 L)::(20, .pv (.sl 1 n (us (dg (4294967296:Nat) a))))::(21, .pv (iv n))::(22, .pv (iv i))::e,[(17,us (fd (4294967296:Nat) L (iE (4294967296:Nat) a b i 0)))],[],[]⟩
def SI (a b n m L i x j:Nat) (e:List (Nat×AV)):St:=⟨(1, .pv (.sl 1 m (us (dg (4294967296:Nat) b))))::(5, .bs 17 0 1 L)::(6, .mv 113 17 0 1 L)::(7, .pv (iv i))::(8, .pv (ak x))::(20, .pv (.sl 1 n (us (dg (4294967296:Nat) a))))::(21, .pv (iv n))::(22, .pv (iv i))::(27, .pv (.sl 1 m (us (dg (4294967296:Nat) b))))::(28, .pv (iv m))::(29, .pv (iv j))::e,[(17,us (fd (4294967296:Nat) L (iE (4294967296:Nat) a b i j)))],[],[]⟩
theorem CC {a b n m L:Nat} (hn:n=(dg (4294967296:Nat) a).length) (hm:m=(dg (4294967296:Nat) b).length) (hL:L=n+m+1):a* b<(4294967296:Nat)^L:=by
 have h1:=cE (b:=(4294967296:Nat)) (n:=a) (by decide)
 have h2:=cE (b:=(4294967296:Nat)) (n:=b) (by decide)
 rw [←hn] at h1;rw [←hm] at h2
 have h3:=Nat.mul_lt_mul'' h1 h2
 rw [←Nat.pow_add] at h3
 exact Nat.lt_of_lt_of_le h3 (Nat.pow_le_pow_right (by decide) (by omega))
theorem Iz (k a b n m L i x:Nat) (hn:n=(dg (4294967296:Nat) a).length) (hm:m=(dg (4294967296:Nat) b).length) (hL:L=n+m+1) (hs:L<2^41) (hi:i<n) (hx:x=a / (4294967296:Nat)^i%(4294967296:Nat)) (hk:m<k):bg (aP MD t33 k 100 1) k (SI a b n m L i x 0 [])=some (.exit 2,SI a b n m L i x m [(30, .pv (bv false))]):=by
 have hP:=CC hn hm hL
 refine bN (f:=aP MD t33 k 100 1) (S:=fun j=>SI a b n m L i x j []) (n:=m) (fun j hj=> ?_)
  (an (Se k n m L i m x (us (dg (4294967296:Nat) a)) (us (dg (4294967296:Nat) b)) (us (fd (4294967296:Nat) L (iE (4294967296:Nat) a b i m)))) ⟨decide_eq_false (by omega),trivial⟩) (by simp) k hk
 have hy:=iJ (b:=(4294967296:Nat)) (v:=b) (by decide) (i:=j) (by omega)
 have hr:aL (us (dg (4294967296:Nat) b)) 1 (j:Int) m [ak (b / (4294967296:Nat)^j%(4294967296:Nat))]:=by rw [hm];exact cQ hy rfl
 have Nx:b / (4294967296:Nat)^j%(4294967296:Nat)<(4294967296:Nat):=Nat.mod_lt _ (by decide)
 have hxl:x<(4294967296:Nat):=by rw [hx];exact Nat.mod_lt _ (by decide)
 have st:=IQ (4294967296:Nat) a b i j
 rw [←hx] at st
 have l1:=Gb (4294967296:Nat) a b i j
 have l2:=Gb (4294967296:Nat) a b i (j+1)
 have hv:val (4294967296:Nat) (fd (4294967296:Nat) L (iE (4294967296:Nat) a b i j))=iE (4294967296:Nat) a b i j:=by rw [jo (by decide),Nat.mod_eq_of_lt (by omega)]
 have hp:=Lw (W:=fd (4294967296:Nat) L (iE (4294967296:Nat) a b i j)) (p:=i+j) (x:=x) (y:=b / (4294967296:Nat)^j%(4294967296:Nat)) (by rw [bG];exact hs) (fV (by decide) _ _) hxl Nx (by rw [bG];omega) (by rw [hv,bG,←st];omega)
 rw [hv,bG,←st] at hp
 exact an (Sd k n m L i j x (b / (4294967296:Nat)^j%(4294967296:Nat)) (us (dg (4294967296:Nat) a)) (us (dg (4294967296:Nat) b)) (us (fd (4294967296:Nat) L (iE (4294967296:Nat) a b i j))) (us (fd (4294967296:Nat) L (iE (4294967296:Nat) a b i (j+1))))) ⟨decide_eq_true (by omega),hr,aR (by omega) (by omega),hp,aR (by omega) (by omega),trivial⟩
theorem IA (k a b n m L:Nat) (hn:n=(dg (4294967296:Nat) a).length) (hm:m=(dg (4294967296:Nat) b).length) (hL:L=n+m+1) (hs:L<2^41) (hk:n+m<k):bg (aP MD t33 k 100 0) k (SO a b n m L 0 [])=some (.exit 0,SO a b n m L n [(23, .pv (bv false))]):=by
 refine bN (f:=aP MD t33 k 100 0) (S:=fun i=>SO a b n m L i []) (n:=n) (fun i hi=> ?_)
  (an (Sc k n m L n (us (dg (4294967296:Nat) a)) (us (dg (4294967296:Nat) b)) (us (fd (4294967296:Nat) L (iE (4294967296:Nat) a b n 0)))) ⟨decide_eq_false (by omega),trivial⟩) (by simp) k (by omega)
 have hx:=iJ (b:=(4294967296:Nat)) (v:=a) (by decide) (i:=i) (by omega)
 have hr:aL (us (dg (4294967296:Nat) a)) 1 (i:Int) n [ak (a / (4294967296:Nat)^i%(4294967296:Nat))]:=by rw [hn];exact cQ hx rfl
 have lp:=Iz k a b n m L i (a / (4294967296:Nat)^i%(4294967296:Nat)) hn hm hL hs hi rfl (by omega)
 have nx:=IP (4294967296:Nat) a b i m (by rw [hm];exact cE (by decide))
 unfold SI at lp
 rw [nx] at lp
 exact an (Sb k n m L i (a / (4294967296:Nat)^i%(4294967296:Nat)) (us (dg (4294967296:Nat) a)) (us (dg (4294967296:Nat) b)) (us (fd (4294967296:Nat) L (iE (4294967296:Nat) a b i 0))) (us (fd (4294967296:Nat) L (iE (4294967296:Nat) a b (i+1) 0)))) ⟨decide_eq_true (by omega),hr,lp,aR (by omega) (by omega),trivial⟩
theorem NW (a b:Nat) (ha:(dg (4294967296:Nat) a).length<2^38) (hb:(dg (4294967296:Nat) b).length<2^38):az P0 100 [nat (dg (4294967296:Nat) a),nat (dg (4294967296:Nat) b)] (one (nat (dg (4294967296:Nat) (a* b)))):=by
 obtain ⟨n,hn⟩:∃n,n=(dg (4294967296:Nat) a).length:=⟨_,rfl⟩
 obtain ⟨m,hm⟩:∃m,m=(dg (4294967296:Nat) b).length:=⟨_,rfl⟩
 have lp:=IA (n+m+1) a b n m (n+m+1) hn hm rfl (by omega) (by omega)
 have hP:=CC (L:=n+m+1) hn hm rfl
 have hend:=Lu (4294967296:Nat) a b n (by rw [hn];exact cE (by decide))
 unfold SO at lp
 rw [hend,IS,Ca] at lp
 have z:=ja (n:=n+m+1)
 have tr:=sR (n:=n+m+1) (v:=a* b) (by omega) hP
 have fin:cH (us (fd (4294967296:Nat) (n+m+1) (a* b))) 0 ((n+m+1)* 1) (us (fd (4294967296:Nat) (n+m+1) (a* b))):=je _ _ _ (by rw [List.drop_zero,Nat.mul_one,List.take_of_length_le (by rw [bG];omega)])
 have:=ah af ON (by rfl) (Xo (n+m+1) n m (n+m) (us (dg (4294967296:Nat) a)) (us (dg (4294967296:Nat) b)) (us (List.replicate (n+m+1) 0)) (us (fd (4294967296:Nat) (n+m+1) (a* b))) (us (fd (4294967296:Nat) (n+m+1) (a* b))) (nat (dg (4294967296:Nat) (a* b)))) ⟨aR (by omega) (by omega),aR (by omega) (by omega),vO (by omega),decide_eq_false (by omega),z,lp,fin,tr,trivial⟩
 unfold nat at this ⊢
 rw [←hn,←hm]
 exact this
end Go.Proofs.YtibbgjafjhcemaaDoor.Cul
namespace Go.Proofs.YtibbgjafjhcemaaDoor.Cul
open Go Go.RowKit
noncomputable def LX:List PV→Option RV:=bJ (fun x:Nat×Nat=>(dg (4294967296:Nat) x.1).length<2^39∧(dg (4294967296:Nat) x.2).length<2^39) (fun x=>[nat (dg (4294967296:Nat) x.1),nat (dg (4294967296:Nat) x.2)]) (fun x=>one (nat (dg (4294967296:Nat) (x.1+x.2))))
noncomputable def J6:List PV→Option RV:=bJ (fun x:Nat×Nat=>x.2≤x.1∧0<x.1∧(dg (4294967296:Nat) x.1).length<2^39) (fun x=>[nat (dg (4294967296:Nat) x.1),nat (dg (4294967296:Nat) x.2)]) (fun x=>one (nat (dg (4294967296:Nat) (x.1 - x.2))))
noncomputable def NV:List PV→Option RV:=bJ (fun x:Nat×Nat=>(dg (4294967296:Nat) x.1).length<2^38∧(dg (4294967296:Nat) x.2).length<2^38) (fun x=>[nat (dg (4294967296:Nat) x.1),nat (dg (4294967296:Nat) x.2)]) (fun x=>one (nat (dg (4294967296:Nat) (x.1* x.2))))
noncomputable def t34:Cl:=bI [(63,ff),(92,F2),(97,LX),(98,wN),(99,J6),(100,NV),(83,oc)]
theorem WQ (k na nb nc:Nat) (g h e:Bool) (s t u:ByteArray) (xs ys zs:List PV):ay MD t34 k 84 [iz g s,iz h t] [.r (one (bv true)), .r (one (bv true)), .r (one (.sl 1 na xs)), .r (one (.sl 1 nb ys)), .c true, .r (one (.sl 1 nc zs)), .r (one (iz e u))]=
 some (RV.mk (PV.ag [PV.lit (Value.bool e),PV.lit (Value.string u)]) none,[aa t34 63 [PV.ag [PV.lit (Value.bool g),PV.lit (Value.string s)]] (RV.mk (PV.lit (Value.bool true)) none),aa t34 63 [PV.ag [PV.lit (Value.bool h),PV.lit (Value.string t)]] (RV.mk (PV.lit (Value.bool true)) none),aa t34 92 [PV.lit (Value.string s)] (RV.mk (PV.sl 1 na xs) none),aa t34 92 [PV.lit (Value.string t)] (RV.mk (PV.sl 1 nb ys) none),(g==h)=true,aa t34 97 [PV.sl 1 na xs,PV.sl 1 nb ys] (RV.mk (PV.sl 1 nc zs) none),aa t34 83 [PV.sl 1 nc zs,PV.lit (Value.bool g)] (RV.mk (PV.ag [PV.lit (Value.bool e),PV.lit (Value.string u)]) none)]):=by kernel_rfl
theorem WR (k na nb nc:Nat) (g h e:Bool) (s t u:ByteArray) (xs ys zs:List PV) (c:Int):ay MD t34 k 84 [iz g s,iz h t] [.r (one (bv true)), .r (one (bv true)), .r (one (.sl 1 na xs)), .r (one (.sl 1 nb ys)), .c false, .r (one (iv c)), .c true, .r (one (.sl 1 nc zs)), .r (one (iz e u))]=
 some (RV.mk (PV.ag [PV.lit (Value.bool e),PV.lit (Value.string u)]) none,[aa t34 63 [PV.ag [PV.lit (Value.bool g),PV.lit (Value.string s)]] (RV.mk (PV.lit (Value.bool true)) none),aa t34 63 [PV.ag [PV.lit (Value.bool h),PV.lit (Value.string t)]] (RV.mk (PV.lit (Value.bool true)) none),aa t34 92 [PV.lit (Value.string s)] (RV.mk (PV.sl 1 na xs) none),aa t34 92 [PV.lit (Value.string t)] (RV.mk (PV.sl 1 nb ys) none),(g==h)=false,aa t34 98 [PV.sl 1 na xs,PV.sl 1 nb ys] (RV.mk (PV.lit (Value.int IntKind.i64 c)) none),decide (c≥(0:Int))=true,aa t34 99 [PV.sl 1 na xs,PV.sl 1 nb ys] (RV.mk (PV.sl 1 nc zs) none),aa t34 83 [PV.sl 1 nc zs,PV.lit (Value.bool g)] (RV.mk (PV.ag [PV.lit (Value.bool e),PV.lit (Value.string u)]) none)]):=by kernel_rfl
theorem WS (k na nb nc:Nat) (g h e:Bool) (s t u:ByteArray) (xs ys zs:List PV) (c:Int):ay MD t34 k 84 [iz g s,iz h t] [.r (one (bv true)), .r (one (bv true)), .r (one (.sl 1 na xs)), .r (one (.sl 1 nb ys)), .c false, .r (one (iv c)), .c false, .r (one (.sl 1 nc zs)), .r (one (iz e u))]=
 some (RV.mk (PV.ag [PV.lit (Value.bool e),PV.lit (Value.string u)]) none,[aa t34 63 [PV.ag [PV.lit (Value.bool g),PV.lit (Value.string s)]] (RV.mk (PV.lit (Value.bool true)) none),aa t34 63 [PV.ag [PV.lit (Value.bool h),PV.lit (Value.string t)]] (RV.mk (PV.lit (Value.bool true)) none),aa t34 92 [PV.lit (Value.string s)] (RV.mk (PV.sl 1 na xs) none),aa t34 92 [PV.lit (Value.string t)] (RV.mk (PV.sl 1 nb ys) none),(g==h)=false,aa t34 98 [PV.sl 1 na xs,PV.sl 1 nb ys] (RV.mk (PV.lit (Value.int IntKind.i64 c)) none),decide (c≥(0:Int))=false,aa t34 99 [PV.sl 1 nb ys,PV.sl 1 na xs] (RV.mk (PV.sl 1 nc zs) none),aa t34 83 [PV.sl 1 nc zs,PV.lit (Value.bool h)] (RV.mk (PV.ag [PV.lit (Value.bool e),PV.lit (Value.string u)]) none)]):=by kernel_rfl
theorem WT (k na nb nc:Nat) (g h e d:Bool) (s t u:ByteArray) (xs ys zs:List PV):ay MD t34 k 85 [iz g s,iz h t] [.r (one (bv true)), .r (one (bv true)), .r (one (.sl 1 na xs)), .r (one (.sl 1 nb ys)), .r (one (.sl 1 nc zs)), .c d, .r (one (iz e u))]=
 some (RV.mk (PV.ag [PV.lit (Value.bool e),PV.lit (Value.string u)]) none,[aa t34 63 [PV.ag [PV.lit (Value.bool g),PV.lit (Value.string s)]] (RV.mk (PV.lit (Value.bool true)) none),aa t34 63 [PV.ag [PV.lit (Value.bool h),PV.lit (Value.string t)]] (RV.mk (PV.lit (Value.bool true)) none),aa t34 92 [PV.lit (Value.string s)] (RV.mk (PV.sl 1 na xs) none),aa t34 92 [PV.lit (Value.string t)] (RV.mk (PV.sl 1 nb ys) none),aa t34 100 [PV.sl 1 na xs,PV.sl 1 nb ys] (RV.mk (PV.sl 1 nc zs) none),(!g==h)=d,aa t34 83 [PV.sl 1 nc zs,PV.lit (Value.bool d)] (RV.mk (PV.ag [PV.lit (Value.bool e),PV.lit (Value.string u)]) none)]):=by kernel_rfl
theorem wo:aI MD.P t34:=aH
 (aj (au fun x _=>nG x.1 x.2)
 (aj (au fun s h=>DT s h)
 (aj (au fun x h=>LY x.1 x.2 h.1 h.2)
 (aj (au fun x h=>uO x.1 x.2 h.1.1 h.1.2 h.2.1 h.2.2)
 (aj (au fun x h=>Lc x.1 x.2 h.1 h.2.1 h.2.2)
 (aj (au fun x h=>NW x.1 x.2 h.1 h.2)
 (aj (au fun x h=>sU x.1 h.1 h.2 x.2) aE)))))))
theorem tY {a b:Nat×Nat} (e:[nat (dg (4294967296:Nat) a.1),nat (dg (4294967296:Nat) a.2)]=[nat (dg (4294967296:Nat) b.1),nat (dg (4294967296:Nat) b.2)]):a=b:=by
 simp only [List.cons.injEq,and_true] at e
 exact Prod.ext (uR (fT e.1)) (uR (fT e.2))
theorem KM {a b:Nat} (h1:(dg (4294967296:Nat) a).length<2^39) (h2:(dg (4294967296:Nat) b).length<2^39):LX [nat (dg (4294967296:Nat) a),nat (dg (4294967296:Nat) b)]=some (one (nat (dg (4294967296:Nat) (a+b)))):=
 aM (a:=(a,b)) (enc:=fun x:Nat×Nat=>[nat (dg (4294967296:Nat) x.1),nat (dg (4294967296:Nat) x.2)]) (fun a b e=>by rw [tY e]) ⟨h1,h2⟩
theorem Ak {a b:Nat} (h:b≤a) (h0:0<a) (h1:(dg (4294967296:Nat) a).length<2^39):J6 [nat (dg (4294967296:Nat) a),nat (dg (4294967296:Nat) b)]=some (one (nat (dg (4294967296:Nat) (a - b)))):=
 aM (a:=(a,b)) (enc:=fun x:Nat×Nat=>[nat (dg (4294967296:Nat) x.1),nat (dg (4294967296:Nat) x.2)]) (fun a b e=>by rw [tY e]) ⟨h,h0,h1⟩
theorem Lo {a b:Nat} (h1:(dg (4294967296:Nat) a).length<2^38) (h2:(dg (4294967296:Nat) b).length<2^38):NV [nat (dg (4294967296:Nat) a),nat (dg (4294967296:Nat) b)]=some (one (nat (dg (4294967296:Nat) (a* b)))):=
 aM (a:=(a,b)) (enc:=fun x:Nat×Nat=>[nat (dg (4294967296:Nat) x.1),nat (dg (4294967296:Nat) x.2)]) (fun a b e=>by rw [tY e]) ⟨h1,h2⟩
theorem sS (v:Nat) (hv:(dg (4294967296:Nat) v).length<2^40) (g:Bool) (z:Int) (hz:(if g then -(v:Int) else v)=z):oc [nat (dg (4294967296:Nat) v),bv g]=some (one (.ag (zc z))):=by
 have:=nH hv (bW (by decide) v) g
 rw [bS (by decide),hz] at this
 exact this
def Sm (z:Int):Prop:=(ai z.natAbs).size<2^28
theorem Sm.len {z:Int} (h:Sm z):(dg (4294967296:Nat) z.natAbs).length<2^28:=by
 unfold Sm at h
 have h1:=cE (b:=256) (n:=z.natAbs) (by decide)
 have h2:(dg 256 z.natAbs).length=(ai z.natAbs).size:=by rw [←cV,bO]
 rw [h2] at h1
 have h3:256^(ai z.natAbs).size≤(4294967296:Nat)^(ai z.natAbs).size:=Nat.pow_le_pow_left (by decide) _
 have:=gZ (b:=(4294967296:Nat)) (n:=z.natAbs) (k:=(ai z.natAbs).size) (by decide) (by omega)
 omega
theorem Sm.of_lt {z:Int} {k:Nat} (h:z.natAbs<256^k) (hk:k<2^28):Sm z:=by
 have:=gZ (b:=256) (n:=z.natAbs) (k:=k) (by decide) h
 have h2:(dg 256 z.natAbs).length=(ai z.natAbs).size:=by rw [←cV,bO]
 unfold Sm;omega
theorem pz (z:Int):ff [.ag (zc z)]=some (one (bv true)):=by
 have:=cD (decide (z<0)) (ai z.natAbs)
 rwa [mc] at this
theorem Cu {z:Int} (h:Sm z):F2 [sv (ai z.natAbs)]=some (one (nat (dg (4294967296:Nat) z.natAbs))):=by
 have h':(ai z.natAbs).size<2^30:=by unfold Sm at h;omega
 have:=Az h'
 rwa [gi] at this
theorem BV (a b:Int) (ha:Sm a) (hb:Sm b):az P0 84 [.ag (zc a), .ag (zc b)] (one (.ag (zc (a+b)))):=by
 have v1:=pz a
 have v2:=pz b
 have o1:=Cu ha
 have o2:=Cu hb
 have l1:=ha.len
 have l2:=hb.len
 by_cases hs:(decide (a<0))=(decide (b<0))
 · have c:=KM (a:=a.natAbs) (b:=b.natAbs) (by omega) (by omega)
   have hl:(dg (4294967296:Nat) (a.natAbs+b.natAbs)).length<2^40:=by
    have h1:=cE (b:=(4294967296:Nat)) (n:=a.natAbs) (by decide)
    have h2:=cE (b:=(4294967296:Nat)) (n:=b.natAbs) (by decide)
    obtain ⟨L,hL⟩:∃L,L=(dg (4294967296:Nat) a.natAbs).length+(dg (4294967296:Nat) b.natAbs).length:=⟨_,rfl⟩
    have h3:(4294967296:Nat)^(dg (4294967296:Nat) a.natAbs).length≤(4294967296:Nat)^L:=Nat.pow_le_pow_right (by decide) (by omega)
    have h4:(4294967296:Nat)^(dg (4294967296:Nat) b.natAbs).length≤(4294967296:Nat)^L:=Nat.pow_le_pow_right (by decide) (by omega)
    have:=gZ (b:=(4294967296:Nat)) (n:=a.natAbs+b.natAbs) (k:=L+1) (by decide) (by rw [Nat.pow_succ];omega)
    omega
   have w:=sS (a.natAbs+b.natAbs) hl (decide (a<0)) (a+b) (by
    by_cases h:a<0<;>by_cases h2:b<0<;>simp [h,h2] at hs ⊢<;>omega)
   exact ah af wo (by rfl) (WQ 1 _ _ _ (decide (a<0)) (decide (b<0)) (decide (a+b<0)) (ai a.natAbs) (ai b.natAbs) (ai (a+b).natAbs) _ _ _) ⟨v1,v2,o1,o2,by rw [hs];exact beq_self_eq_true _,c,w,trivial⟩
 · have hc:=sB (l:=dg (4294967296:Nat) a.natAbs) (m:=dg (4294967296:Nat) b.natAbs) (bW (by decide) _) (bW (by decide) _) (by omega) (by omega)
   have hlt:=uN a.natAbs b.natAbs
   by_cases Ii:a.natAbs<b.natAbs
   · have c:=Ak (a:=b.natAbs) (b:=a.natAbs) (by omega) (by omega) (by omega)
     have hl:=dc (b:=(4294967296:Nat)) (x:=b.natAbs - a.natAbs) (y:=b.natAbs) (by decide) (by omega)
     have w:=sS (b.natAbs - a.natAbs) (by omega) (decide (b<0)) (a+b) (by
      by_cases h:a<0<;>by_cases h2:b<0<;>simp [h,h2] at hs ⊢<;>omega)
     exact ah af wo (by rfl) (WS 1 _ _ _ (decide (a<0)) (decide (b<0)) (decide (a+b<0)) (ai a.natAbs) (ai b.natAbs) (ai (a+b).natAbs) _ _ _ _) ⟨v1,v2,o1,o2,beq_eq_false_iff_ne.2 hs,hc,decide_eq_false (by have:=hlt.2 Ii;omega),c,w,trivial⟩
   · have h0:0<a.natAbs:=by
       rcases Nat.eq_zero_or_pos a.natAbs with h|h
       · exfalso
         apply hs
         have e1:a=0:=by omega
         have e2:b=0:=by omega
         rw [e1,e2]
       · exact h
     have c:=Ak (a:=a.natAbs) (b:=b.natAbs) (by omega) h0 (by omega)
     have hl:=dc (b:=(4294967296:Nat)) (x:=a.natAbs - b.natAbs) (y:=a.natAbs) (by decide) (by omega)
     have w:=sS (a.natAbs - b.natAbs) (by omega) (decide (a<0)) (a+b) (by
      by_cases h:a<0<;>by_cases h2:b<0<;>simp [h,h2] at hs ⊢<;>omega)
     exact ah af wo (by rfl) (WR 1 _ _ _ (decide (a<0)) (decide (b<0)) (decide (a+b<0)) (ai a.natAbs) (ai b.natAbs) (ai (a+b).natAbs) _ _ _ _) ⟨v1,v2,o1,o2,beq_eq_false_iff_ne.2 hs,hc,decide_eq_true (by have:=mt hlt.1 Ii;omega),c,w,trivial⟩
theorem Lp {a b:Int} (ha:Sm a) (hb:Sm b):(dg (4294967296:Nat) (a.natAbs* b.natAbs)).length<2^40:=by
 have l1:=ha.len
 have l2:=hb.len
 have h1:=cE (b:=(4294967296:Nat)) (n:=a.natAbs) (by decide)
 have h2:=cE (b:=(4294967296:Nat)) (n:=b.natAbs) (by decide)
 have h3:=Nat.mul_lt_mul'' h1 h2
 rw [←Nat.pow_add] at h3
 have:=gZ (b:=(4294967296:Nat)) (by decide) h3
 omega
theorem Cp (a b:Int) (ha:Sm a) (hb:Sm b):az P0 85 [.ag (zc a), .ag (zc b)] (one (.ag (zc (a* b)))):=by
 have v1:=pz a
 have v2:=pz b
 have o1:=Cu ha
 have o2:=Cu hb
 have l1:=ha.len
 have l2:=hb.len
 have c:=Lo (a:=a.natAbs) (b:=b.natAbs) (by omega) (by omega)
 have w:=sS (a.natAbs* b.natAbs) (Lp ha hb) (!(decide (a<0))==(decide (b<0))) (a* b) (by
  rw [Int.natCast_mul]
  by_cases h:a<0<;>by_cases h2:b<0<;>simp [h,h2]
  · rw [Int.ofNat_natAbs_of_nonpos (by omega),Int.ofNat_natAbs_of_nonpos (by omega),Int.neg_mul_neg]
  · rw [Int.ofNat_natAbs_of_nonpos (by omega),Int.natAbs_of_nonneg (by omega),Int.neg_mul,Int.neg_neg]
  · rw [Int.natAbs_of_nonneg (by omega),Int.ofNat_natAbs_of_nonpos (by omega),Int.mul_neg,Int.neg_neg]
  · rw [Int.natAbs_of_nonneg (by omega),Int.natAbs_of_nonneg (by omega)])
 exact ah af wo (by rfl) (WT 1 _ _ _ (decide (a<0)) (decide (b<0)) (decide (a* b<0)) (!(decide (a<0))==(decide (b<0))) (ai a.natAbs) (ai b.natAbs) (ai (a* b).natAbs) _ _ _) ⟨v1,v2,o1,o2,c,rfl,w,trivial⟩
end Go.Proofs.YtibbgjafjhcemaaDoor.Cul
namespace Go.Proofs.YtibbgjafjhcemaaDoor.Cul
open Go Go.RowKit
def kK:PV:= .lit (.slice none 0 0)
noncomputable def tC (f g:List PV→Option RV):List PV→Option RV:=fun a=>match f a with
 |some r=>some r
 |none=>g a
noncomputable def Ka:List PV→Option RV:=bJ (fun _:Unit=>True) (fun _=>[kK]) (fun _=>one (sv ⟨#[]⟩))
noncomputable def Hh:Cl:=bI [(96,Ka)]
noncomputable def y7:List PV→Option RV:=bJ (fun _:Bool=>True) (fun b=>[kK,bv b]) (fun _=>one (.ag (zc 0)))
noncomputable def t35:Cl:=bI [(63,ff),(92,F2),(93,HS),(83,tC oc y7)]
theorem Xl (k:Nat):ay MD t5 k 96 [kK] [.i 7 0, .c true, .i 11 (-1), .u 1, .c false, .w 43 ⟨#[]⟩, .r (one (sv ⟨#[]⟩))]=
 some (RV.mk (PV.lit (Value.string (ByteArray.mk #[]))) none,[(0:Int)=(0:Int),(0:Int)≤(0:Int)∧(0:Int)≤(0:Int)∧(0:Int)* (↑(MD.P.bytesOf (5:Nat)):Int)≤(↑room:Int)∧(0:Int)≤(↑room:Int),true=true,(-1:Int)=(-1:Int),1≤k,false=false,jA [] (ByteArray.mk #[]),aa t5 110 [PV.lit (Value.string (ByteArray.mk #[])),PV.lit (Value.string (ByteArray.mk #[(0:UInt8)]))] (RV.mk (PV.lit (Value.string (ByteArray.mk #[]))) none)]):=by kernel_rfl
theorem ZB (k:Nat):ay MD Hh k 83 [kK,bv false] [.r (one (sv ⟨#[]⟩))]=
 some (RV.mk (PV.ag [PV.lit (Value.bool false),PV.lit (Value.string (ByteArray.mk #[]))]) none,[aa Hh 96 [PV.lit (Value.slice none 0 0)] (RV.mk (PV.lit (Value.string (ByteArray.mk #[]))) none)]):=by kernel_rfl
theorem ZC (k:Nat):ay MD Hh k 83 [kK,bv true] [.r (one (sv ⟨#[]⟩)), .c false]=
 some (RV.mk (PV.ag [PV.lit (Value.bool false),PV.lit (Value.string (ByteArray.mk #[]))]) none,[aa Hh 96 [PV.lit (Value.slice none 0 0)] (RV.mk (PV.lit (Value.string (ByteArray.mk #[]))) none),false=false]):=by kernel_rfl
theorem UN (k na nb nq nr:Nat) (g h e d:Bool) (s t u:ByteArray) (xs ys zs ws:List PV):ay MD t35 k 114 [iz g s,iz h t] [.r (one (bv true)), .r (one (bv true)), .c false, .r (one (.sl 1 na xs)), .r (one (.sl 1 nb ys)), .r (one (.aG [.sl 1 nq zs, .sl 1 nr ws])), .c d, .r (one (iz e u)), .r (one (iz false ⟨#[]⟩)), .c false]=
 some (RV.mk (PV.aG [PV.ag [PV.lit (Value.bool e),PV.lit (Value.string u)],PV.ag [PV.lit (Value.bool false),PV.lit (Value.string (ByteArray.mk #[]))],PV.lit (Value.int IntKind.i64 (0:Int))]) none,[aa t35 63 [PV.ag [PV.lit (Value.bool g),PV.lit (Value.string s)]] (RV.mk (PV.lit (Value.bool true)) none),aa t35 63 [PV.ag [PV.lit (Value.bool h),PV.lit (Value.string t)]] (RV.mk (PV.lit (Value.bool true)) none),(t.toList==(ByteArray.mk #[]).toList)=false,aa t35 92 [PV.lit (Value.string s)] (RV.mk (PV.sl 1 na xs) none),aa t35 92 [PV.lit (Value.string t)] (RV.mk (PV.sl 1 nb ys) none),aa t35 93 [PV.sl 1 na xs,PV.sl 1 nb ys] (RV.mk (PV.aG [PV.sl 1 nq zs,PV.sl 1 nr ws]) none),(!g==h)=d,aa t35 83 [PV.sl 1 nq zs,PV.lit (Value.bool d)] (RV.mk (PV.ag [PV.lit (Value.bool e),PV.lit (Value.string u)]) none),aa t35 83 [PV.sl 1 nr ws,PV.lit (Value.bool g)] (RV.mk (PV.ag [PV.lit (Value.bool false),PV.lit (Value.string (ByteArray.mk #[]))]) none),false=false,St.mk [(4,AV.bp 4 0),(5,AV.bp 5 0),(6,AV.pv (PV.lit (Value.int IntKind.i64 (0:Int))))] [(4,[PV.lit (Value.bool e),PV.lit (Value.string u)]),(5,[PV.lit (Value.bool false),PV.lit (Value.string (ByteArray.mk #[]))])] [] []=St.mk [(4,AV.bp 4 0),(5,AV.bp 5 0),(6,AV.pv (PV.lit (Value.int IntKind.i64 (0:Int))))] [(4,[PV.lit (Value.bool e),PV.lit (Value.string u)]),(5,[PV.lit (Value.bool false),PV.lit (Value.string (ByteArray.mk #[]))])] [] [],St.mk [(4,AV.bp 4 0),(5,AV.bp 5 0),(6,AV.pv (PV.lit (Value.int IntKind.i64 (0:Int))))] [(4,[PV.lit (Value.bool e),PV.lit (Value.string u)]),(5,[PV.lit (Value.bool false),PV.lit (Value.string (ByteArray.mk #[]))])] [] []=St.mk [(4,AV.bp 4 0),(5,AV.bp 5 0),(6,AV.pv (PV.lit (Value.int IntKind.i64 (0:Int))))] [(4,[PV.lit (Value.bool e),PV.lit (Value.string u)]),(5,[PV.lit (Value.bool false),PV.lit (Value.string (ByteArray.mk #[]))])] [] []]):=by kernel_rfl
theorem UO (k na nb nq nr:Nat) (g h e d:Bool) (s t u:ByteArray) (xs ys zs ws:List PV):ay MD t35 k 114 [iz g s,iz h t] [.r (one (bv true)), .r (one (bv true)), .c false, .r (one (.sl 1 na xs)), .r (one (.sl 1 nb ys)), .r (one (.aG [kK, .sl 1 nr ws])), .c d, .r (one (iz e u)), .r (one (iz false ⟨#[]⟩)), .c false]=
 some (RV.mk (PV.aG [PV.ag [PV.lit (Value.bool e),PV.lit (Value.string u)],PV.ag [PV.lit (Value.bool false),PV.lit (Value.string (ByteArray.mk #[]))],PV.lit (Value.int IntKind.i64 (0:Int))]) none,[aa t35 63 [PV.ag [PV.lit (Value.bool g),PV.lit (Value.string s)]] (RV.mk (PV.lit (Value.bool true)) none),aa t35 63 [PV.ag [PV.lit (Value.bool h),PV.lit (Value.string t)]] (RV.mk (PV.lit (Value.bool true)) none),(t.toList==(ByteArray.mk #[]).toList)=false,aa t35 92 [PV.lit (Value.string s)] (RV.mk (PV.sl 1 na xs) none),aa t35 92 [PV.lit (Value.string t)] (RV.mk (PV.sl 1 nb ys) none),aa t35 93 [PV.sl 1 na xs,PV.sl 1 nb ys] (RV.mk (PV.aG [PV.lit (Value.slice none 0 0),PV.sl 1 nr ws]) none),(!g==h)=d,aa t35 83 [PV.lit (Value.slice none 0 0),PV.lit (Value.bool d)] (RV.mk (PV.ag [PV.lit (Value.bool e),PV.lit (Value.string u)]) none),aa t35 83 [PV.sl 1 nr ws,PV.lit (Value.bool g)] (RV.mk (PV.ag [PV.lit (Value.bool false),PV.lit (Value.string (ByteArray.mk #[]))]) none),false=false,St.mk [(4,AV.bp 4 0),(5,AV.bp 5 0),(6,AV.pv (PV.lit (Value.int IntKind.i64 (0:Int))))] [(4,[PV.lit (Value.bool e),PV.lit (Value.string u)]),(5,[PV.lit (Value.bool false),PV.lit (Value.string (ByteArray.mk #[]))])] [] []=St.mk [(4,AV.bp 4 0),(5,AV.bp 5 0),(6,AV.pv (PV.lit (Value.int IntKind.i64 (0:Int))))] [(4,[PV.lit (Value.bool e),PV.lit (Value.string u)]),(5,[PV.lit (Value.bool false),PV.lit (Value.string (ByteArray.mk #[]))])] [] [],St.mk [(4,AV.bp 4 0),(5,AV.bp 5 0),(6,AV.pv (PV.lit (Value.int IntKind.i64 (0:Int))))] [(4,[PV.lit (Value.bool e),PV.lit (Value.string u)]),(5,[PV.lit (Value.bool false),PV.lit (Value.string (ByteArray.mk #[]))])] [] []=St.mk [(4,AV.bp 4 0),(5,AV.bp 5 0),(6,AV.pv (PV.lit (Value.int IntKind.i64 (0:Int))))] [(4,[PV.lit (Value.bool e),PV.lit (Value.string u)]),(5,[PV.lit (Value.bool false),PV.lit (Value.string (ByteArray.mk #[]))])] [] []]):=by kernel_rfl
theorem DX {f g:List PV→Option RV} {a:List PV} {r:RV} (h:f a=some r):tC f g a=some r:=by unfold tC;rw [h]
theorem Kc {f g:List PV→Option RV} {a:List PV} {r:RV} (h0:f a=none) (h:g a=some r):tC f g a=some r:=by unfold tC;rw [h0];exact h
theorem F5 {P:Program} {n:Nat} {f g:List PV→Option RV} (hf:∀a r,f a=some r→az P n a r) (hg:∀a r,g a=some r→az P n a r):∀a r,tC f g a=some r→az P n a r:=by
 intro a r h
 unfold tC at h
 split at h
 · rename_i x hx
   simp only [Option.some.injEq] at h
   subst h;exact hf a _ hx
 · exact hg a r h
theorem Bd {α:Type} {pre:α→Prop} {enc:α→List PV} {g:α→RV} {args:List PV} (h:∀a,pre a→enc a≠args):bJ pre enc g args=none:=by
 unfold bJ
 exact dif_neg fun ⟨a,h1,h2⟩=>h a h1 h2
theorem R4:ai (bM ⟨#[]⟩)=⟨#[]⟩:=by
 have:bM (ai 0)=0:=gi 0
 rw [FR] at this
 rw [this];rfl
theorem Ll:az P0 96 [kK] (one (sv ⟨#[]⟩)):=by
 have c:=Ho ⟨#[]⟩
 rw [R4] at c
 exact ah af KA (by rfl) (Xl 1) ⟨rfl,⟨by decide,by decide,by rw [Int.zero_mul];exact Int.natCast_nonneg _,Int.natCast_nonneg _⟩,rfl,rfl,Nat.le_refl _,rfl,rfl,c,trivial⟩
theorem Hi:aI MD.P Hh:=aH (aj (au fun _ _=>Ll) aE)
theorem Ju (b:Bool):az P0 83 [kK,bv b] (one (.ag (zc 0))):=by
 have c:Ka [kK]=some (one (sv ⟨#[]⟩)):=aM (a:=()) (enc:=fun _:Unit=>[kK]) (fun _ _ _=>rfl) trivial
 cases b with
 |false=>exact ah af Hi (by rfl) (ZB 1) ⟨c,trivial⟩
 |true=>exact ah af Hi (by rfl) (ZC 1) ⟨c,rfl,trivial⟩
theorem Hf:aI MD.P t35:=aH
 (aj (au fun x _=>nG x.1 x.2)
 (aj (au fun s h=>DT s h)
 (aj (au fun x h=>xI h.1 h.2.1 h.2.2)
 (aj (F5 (au fun x h=>sU x.1 h.1 h.2 x.2) (au fun b _=>Ju b)) aE))))
theorem LP (b:Bool):tC oc y7 [kK,bv b]=some (one (.ag (zc 0))):=by
 refine Kc (Bd fun x _ e=> ?_) (aM (enc:=fun b:Bool=>[kK,bv b]) (fun _ _ _=>rfl) trivial)
 simp [nat,kK] at e
theorem LJ {b c:Int} (hb:b≠0):(if (!(decide (b* c<0))==(decide (b<0)))=true then -(c.natAbs:Int) else (c.natAbs:Int))=c:=by
 rcases Int.lt_trichotomy c 0 with hc|hc|hc
 · rcases Int.lt_trichotomy b 0 with h|h|h
   · have:0<b* c:=Int.mul_pos_of_neg_of_neg h hc
     have h1:¬b* c<0:=by omega
     simp [h,h1];omega
   · exact absurd h hb
   · have:b* c<0:=Int.mul_neg_of_pos_of_neg h hc
     have h1:¬b<0:=by omega
     simp [this,h1];omega
 · subst hc;split<;>rfl
 · rcases Int.lt_trichotomy b 0 with h|h|h
   · have:b* c<0:=Int.mul_neg_of_neg_of_pos h hc
     simp [h,this];omega
   · exact absurd h hb
   · have:0<b* c:=Int.mul_pos h hc
     have h1:¬b<0:=by omega
     have h2:¬b* c<0:=by omega
     simp [h1,h2];omega
theorem KS (b c:Int) (hb:b≠0) (hs:Sm (b* c)) (Ch:Sm b):az P0 114 [.ag (zc (b* c)), .ag (zc b)] (one (.aG [.ag (zc c), .ag (zc 0),iv 0])):=by
 have v1:=pz (b* c)
 have v2:=pz b
 have o1:=Cu hs
 have o2:=Cu Ch
 have l1:=hs.len
 have l2:=Ch.len
 have hb0:0<b.natAbs:=by omega
 have hne:((ai b.natAbs).toList==(ByteArray.mk #[]).toList)=false:=oT (by omega)
 have d:=wQ (a:=(b* c).natAbs) (b:=b.natAbs) hb0 (by omega) (by omega)
 have hm:(b* c).natAbs%b.natAbs=0:=by rw [Int.natAbs_mul];exact Nat.mul_mod_right _ _
 have hq:(b* c).natAbs / b.natAbs=c.natAbs:=by rw [Int.natAbs_mul];exact Nat.mul_div_cancel_left _ hb0
 rw [hm] at d
 unfold uw at d
 have wr:tC oc y7 [nat (dg (4294967296:Nat) 0),bv (decide (b* c<0))]=some (one (.ag (zc 0))):=DX (sS 0 (by rw [dM];decide) (decide (b* c<0)) 0 (by split<;>rfl))
 by_cases hlt:(b* c).natAbs<b.natAbs
 · rw [if_pos hlt] at d
   have hc:c=0:=by
    rw [Nat.div_eq_of_lt hlt] at hq;omega
   subst hc
   exact ah af Hf (by rfl) (UO 1 _ _ 0 _ (decide (b* 0<0)) (decide (b<0)) false (!(decide (b* 0<0))==(decide (b<0))) (ai (b* 0).natAbs) (ai b.natAbs) ⟨#[]⟩ _ _ [] _) ⟨v1,v2,hne,o1,o2,d,rfl,LP _,wr,rfl,rfl,rfl,trivial⟩
 · rw [if_neg hlt,hq] at d
   have hl:=dc (b:=(4294967296:Nat)) (x:=c.natAbs) (y:=(b* c).natAbs) (by decide) (by rw [←hq];exact Nat.div_le_self _ _)
   have wq:=DX (g:=y7) (sS c.natAbs (by omega) (!(decide (b* c<0))==(decide (b<0))) c (LJ hb))
   exact ah af Hf (by rfl) (UN 1 _ _ _ _ (decide (b* c<0)) (decide (b<0)) (decide (c<0)) (!(decide (b* c<0))==(decide (b<0))) (ai (b* c).natAbs) (ai b.natAbs) (ai c.natAbs) _ _ _ _) ⟨v1,v2,hne,o1,o2,d,rfl,wq,wr,rfl,rfl,rfl,trivial⟩
end Go.Proofs.YtibbgjafjhcemaaDoor.Cul
namespace Go.Proofs.YtibbgjafjhcemaaDoor.Cul
open Go Go.RowKit
noncomputable def P9:List PV→Option RV:=bJ (fun x:Int×Int=>x.2≠0∧x.2∣x.1∧Sm x.1∧Sm x.2) (fun x=>[.ag (zc x.1), .ag (zc x.2)]) (fun x=>one (.aG [.ag (zc (x.1 / x.2)), .ag (zc 0),iv 0]))
noncomputable def Ke:List PV→Option RV:=bJ (fun x:Int×Int=>x.2≠0∧x.2∣x.1∧Sm x.1∧Sm x.2) (fun x=>[.ag (zc x.1), .ag (zc x.2)]) (fun x=>one (.ag (zc (x.1 / x.2))))
noncomputable def DN:List PV→Option RV:=bJ (fun _:Int=>True) (fun z=>[.ag (zc z)]) (fun z=>one (.ag (zc (-z))))
noncomputable def t36:Cl:=bI [(114,P9)]
noncomputable def t37:Cl:=bI [(65,HL),(64,A8),(54,DN),(66,xl),(101,Ke)]
theorem XO (k:Nat) (g h e f:Bool) (s t u v:ByteArray):ay MD t36 k 101 [iz g s,iz h t] [.r (one (.aG [iz e u,iz f v,iv 0]))]=
 some (RV.mk (PV.ag [PV.lit (Value.bool e),PV.lit (Value.string u)]) none,[aa t36 114 [PV.ag [PV.lit (Value.bool g),PV.lit (Value.string s)],PV.ag [PV.lit (Value.bool h),PV.lit (Value.string t)]] (RV.mk (PV.aG [PV.ag [PV.lit (Value.bool e),PV.lit (Value.string u)],PV.ag [PV.lit (Value.bool f),PV.lit (Value.string v)],PV.lit (Value.int IntKind.i64 (0:Int))]) none)]):=by kernel_rfl
theorem Xe (k:Nat) (g0 g1 g2 g3 gd gg:Bool) (s0 s1 s2 s3 sd sg u:ByteArray) (n:Int):ay MD t37 k 86 [.ag [bv g0,sv s0,bv g1,sv s1,bv g2,sv s2,bv g3,sv s3],iz gd sd] [.r (one (iz gg sg)), .r (one (iv n)), .c false, .r (one (iz false u)), .g true]=
 some (RV.mk (PV.ag [PV.lit (Value.bool g0),PV.lit (Value.string s0),PV.lit (Value.bool g1),PV.lit (Value.string s1),PV.lit (Value.bool g2),PV.lit (Value.string s2),PV.lit (Value.bool g3),PV.lit (Value.string s3),PV.lit (Value.bool gd),PV.lit (Value.string sd)]) none,[aa t37 65 [PV.ag [PV.lit (Value.bool g0),PV.lit (Value.string s0),PV.lit (Value.bool g1),PV.lit (Value.string s1),PV.lit (Value.bool g2),PV.lit (Value.string s2),PV.lit (Value.bool g3),PV.lit (Value.string s3)],PV.ag [PV.lit (Value.bool gd),PV.lit (Value.string sd)]] (RV.mk (PV.ag [PV.lit (Value.bool gg),PV.lit (Value.string sg)]) none),aa t37 64 [PV.ag [PV.lit (Value.bool gd),PV.lit (Value.string sd)]] (RV.mk (PV.lit (Value.int IntKind.i64 n)) none),decide (n<(0:Int))=false,aa t37 66 [PV.lit (Value.int IntKind.i64 (1:Int))] (RV.mk (PV.ag [PV.lit (Value.bool false),PV.lit (Value.string u)]) none),gw MD.P BinOp.eql 27 (Operand.tmp (15:Nat)) (Operand.tmp (16:Nat)) (Value.agg (Array.mk [Value.bool gg,Value.string sg])) (Value.agg (Array.mk [Value.bool false,Value.string u])) true]):=by kernel_rfl
theorem Xf (k:Nat) (g0 g1 g2 g3 gd gg e0 e1 e2 e3 e4:Bool) (s0 s1 s2 s3 sd sg u u0 u1 u2 u3 u4:ByteArray) (n:Int):ay MD t37 k 86 [.ag [bv g0,sv s0,bv g1,sv s1,bv g2,sv s2,bv g3,sv s3],iz gd sd] [.r (one (iz gg sg)), .r (one (iv n)), .c false, .r (one (iz false u)), .g false, .u 5, .c true, .r (one (iz e0 u0)), .c true, .r (one (iz e1 u1)), .c true, .r (one (iz e2 u2)), .c true, .r (one (iz e3 u3)), .c false, .r (one (iz e4 u4))]=
 some (RV.mk (PV.ag [PV.lit (Value.bool e0),PV.lit (Value.string u0),PV.lit (Value.bool e1),PV.lit (Value.string u1),PV.lit (Value.bool e2),PV.lit (Value.string u2),PV.lit (Value.bool e3),PV.lit (Value.string u3),PV.lit (Value.bool e4),PV.lit (Value.string u4)]) none,[aa t37 65 [PV.ag [PV.lit (Value.bool g0),PV.lit (Value.string s0),PV.lit (Value.bool g1),PV.lit (Value.string s1),PV.lit (Value.bool g2),PV.lit (Value.string s2),PV.lit (Value.bool g3),PV.lit (Value.string s3)],PV.ag [PV.lit (Value.bool gd),PV.lit (Value.string sd)]] (RV.mk (PV.ag [PV.lit (Value.bool gg),PV.lit (Value.string sg)]) none),aa t37 64 [PV.ag [PV.lit (Value.bool gd),PV.lit (Value.string sd)]] (RV.mk (PV.lit (Value.int IntKind.i64 n)) none),decide (n<(0:Int))=false,aa t37 66 [PV.lit (Value.int IntKind.i64 (1:Int))] (RV.mk (PV.ag [PV.lit (Value.bool false),PV.lit (Value.string u)]) none),gw MD.P BinOp.eql 27 (Operand.tmp (15:Nat)) (Operand.tmp (16:Nat)) (Value.agg (Array.mk [Value.bool gg,Value.string sg])) (Value.agg (Array.mk [Value.bool false,Value.string u])) false,5≤k,true=true,aa t37 101 [PV.ag [PV.lit (Value.bool g0),PV.lit (Value.string s0)],PV.ag [PV.lit (Value.bool gg),PV.lit (Value.string sg)]] (RV.mk (PV.ag [PV.lit (Value.bool e0),PV.lit (Value.string u0)]) none),true=true,aa t37 101 [PV.ag [PV.lit (Value.bool g1),PV.lit (Value.string s1)],PV.ag [PV.lit (Value.bool gg),PV.lit (Value.string sg)]] (RV.mk (PV.ag [PV.lit (Value.bool e1),PV.lit (Value.string u1)]) none),true=true,aa t37 101 [PV.ag [PV.lit (Value.bool g2),PV.lit (Value.string s2)],PV.ag [PV.lit (Value.bool gg),PV.lit (Value.string sg)]] (RV.mk (PV.ag [PV.lit (Value.bool e2),PV.lit (Value.string u2)]) none),true=true,aa t37 101 [PV.ag [PV.lit (Value.bool g3),PV.lit (Value.string s3)],PV.ag [PV.lit (Value.bool gg),PV.lit (Value.string sg)]] (RV.mk (PV.ag [PV.lit (Value.bool e3),PV.lit (Value.string u3)]) none),false=false,aa t37 101 [PV.ag [PV.lit (Value.bool gd),PV.lit (Value.string sd)],PV.ag [PV.lit (Value.bool gg),PV.lit (Value.string sg)]] (RV.mk (PV.ag [PV.lit (Value.bool e4),PV.lit (Value.string u4)]) none)]):=by kernel_rfl
theorem Xg (k:Nat) (g0 g1 g2 g3 gd gg gn e0 e1 e2 e3 e4:Bool) (s0 s1 s2 s3 sd sg sn u u0 u1 u2 u3 u4:ByteArray) (n:Int):ay MD t37 k 86 [.ag [bv g0,sv s0,bv g1,sv s1,bv g2,sv s2,bv g3,sv s3],iz gd sd] [.r (one (iz gg sg)), .r (one (iv n)), .c true, .r (one (iz gn sn)), .r (one (iz false u)), .g false, .u 5, .c true, .r (one (iz e0 u0)), .c true, .r (one (iz e1 u1)), .c true, .r (one (iz e2 u2)), .c true, .r (one (iz e3 u3)), .c false, .r (one (iz e4 u4))]=
 some (RV.mk (PV.ag [PV.lit (Value.bool e0),PV.lit (Value.string u0),PV.lit (Value.bool e1),PV.lit (Value.string u1),PV.lit (Value.bool e2),PV.lit (Value.string u2),PV.lit (Value.bool e3),PV.lit (Value.string u3),PV.lit (Value.bool e4),PV.lit (Value.string u4)]) none,[aa t37 65 [PV.ag [PV.lit (Value.bool g0),PV.lit (Value.string s0),PV.lit (Value.bool g1),PV.lit (Value.string s1),PV.lit (Value.bool g2),PV.lit (Value.string s2),PV.lit (Value.bool g3),PV.lit (Value.string s3)],PV.ag [PV.lit (Value.bool gd),PV.lit (Value.string sd)]] (RV.mk (PV.ag [PV.lit (Value.bool gg),PV.lit (Value.string sg)]) none),aa t37 64 [PV.ag [PV.lit (Value.bool gd),PV.lit (Value.string sd)]] (RV.mk (PV.lit (Value.int IntKind.i64 n)) none),decide (n<(0:Int))=true,aa t37 54 [PV.ag [PV.lit (Value.bool gg),PV.lit (Value.string sg)]] (RV.mk (PV.ag [PV.lit (Value.bool gn),PV.lit (Value.string sn)]) none),aa t37 66 [PV.lit (Value.int IntKind.i64 (1:Int))] (RV.mk (PV.ag [PV.lit (Value.bool false),PV.lit (Value.string u)]) none),gw MD.P BinOp.eql 27 (Operand.tmp (15:Nat)) (Operand.tmp (16:Nat)) (Value.agg (Array.mk [Value.bool gn,Value.string sn])) (Value.agg (Array.mk [Value.bool false,Value.string u])) false,5≤k,true=true,aa t37 101 [PV.ag [PV.lit (Value.bool g0),PV.lit (Value.string s0)],PV.ag [PV.lit (Value.bool gn),PV.lit (Value.string sn)]] (RV.mk (PV.ag [PV.lit (Value.bool e0),PV.lit (Value.string u0)]) none),true=true,aa t37 101 [PV.ag [PV.lit (Value.bool g1),PV.lit (Value.string s1)],PV.ag [PV.lit (Value.bool gn),PV.lit (Value.string sn)]] (RV.mk (PV.ag [PV.lit (Value.bool e1),PV.lit (Value.string u1)]) none),true=true,aa t37 101 [PV.ag [PV.lit (Value.bool g2),PV.lit (Value.string s2)],PV.ag [PV.lit (Value.bool gn),PV.lit (Value.string sn)]] (RV.mk (PV.ag [PV.lit (Value.bool e2),PV.lit (Value.string u2)]) none),true=true,aa t37 101 [PV.ag [PV.lit (Value.bool g3),PV.lit (Value.string s3)],PV.ag [PV.lit (Value.bool gn),PV.lit (Value.string sn)]] (RV.mk (PV.ag [PV.lit (Value.bool e3),PV.lit (Value.string u3)]) none),false=false,aa t37 101 [PV.ag [PV.lit (Value.bool gd),PV.lit (Value.string sd)],PV.ag [PV.lit (Value.bool gn),PV.lit (Value.string sn)]] (RV.mk (PV.ag [PV.lit (Value.bool e4),PV.lit (Value.string u4)]) none)]):=by kernel_rfl
theorem Pf (a b:Int) (h0:b≠0) (h1:b∣a) (h2:Sm a) (h3:Sm b):az P0 114 [.ag (zc a), .ag (zc b)] (one (.aG [.ag (zc (a / b)), .ag (zc 0),iv 0])):=by
 obtain ⟨c,rfl⟩:=h1
 rw [Int.mul_ediv_cancel_left _ h0]
 exact KS b c h0 h2 h3
theorem OO:aI MD.P t36:=aH (aj (au fun x h=>Pf x.1 x.2 h.1 h.2.1 h.2.2.1 h.2.2.2) aE)
theorem sV {a b:Int×Int} (e:[PV.ag (zc a.1), .ag (zc a.2)]=[.ag (zc b.1), .ag (zc b.2)]):a=b:=by
 simp only [List.cons.injEq,and_true,PV.ag.injEq] at e
 exact Prod.ext (eM e.1) (eM e.2)
theorem HX (a b:Int) (h0:b≠0) (hd:b∣a) (ha:Sm a) (hb:Sm b):az P0 101 [.ag (zc a), .ag (zc b)] (one (.ag (zc (a / b)))):=by
 have d:P9 [.ag (zc a), .ag (zc b)]=some (one (.aG [.ag (zc (a / b)), .ag (zc 0),iv 0])):=aM (a:=(a,b)) (enc:=fun x:Int×Int=>[.ag (zc x.1), .ag (zc x.2)]) (fun a b e=>by rw [sV e]) ⟨h0,hd,ha,hb⟩
 exact ah af OO (by rfl) (XO 1 (decide (a<0)) (decide (b<0)) (decide (a / b<0)) false (ai a.natAbs) (ai b.natAbs) (ai (a / b).natAbs) ⟨#[]⟩) ⟨d,trivial⟩
theorem nj {a b:Int} (h0:b≠0) (hd:b∣a) (ha:Sm a) (hb:Sm b):Ke [.ag (zc a), .ag (zc b)]=some (one (.ag (zc (a / b)))):=
 aM (a:=(a,b)) (enc:=fun x:Int×Int=>[.ag (zc x.1), .ag (zc x.2)]) (fun a b e=>by rw [sV e]) ⟨h0,hd,ha,hb⟩
theorem Cr (z:Int):ov (decide (z<0)) (ai z.natAbs)= .ag (zc (-z)):=by
 unfold ov
 rw [mc,if_pos rfl]
 have h1:(!(decide (z<0))&& !(decide ((ai z.natAbs).size=0)))=decide (-z<0):=by
  by_cases hz:z=0
  · subst hz;rfl
  · have:(ai z.natAbs).size≠0:=fun h=>hz (by have:=qf h;omega)
    by_cases h:z<0
    · have h2:¬ -z<0:=by omega
      simp only [h,h2,decide_true,decide_false,Bool.not_true,Bool.false_and]
    · have h2: -z<0:=by omega
      simp only [h,h2,this,decide_true,decide_false,Bool.not_false,Bool.true_and]
 unfold iz zc
 rw [h1,Int.natAbs_neg]
theorem Cs (z:Int):az P0 54 [.ag (zc z)] (one (.ag (zc (-z)))):=by
 have:=FX (decide (z<0)) (ai z.natAbs)
 rw [Cr] at this
 exact this
theorem mZ (z:Int):DN [.ag (zc z)]=some (one (.ag (zc (-z)))):=
 aM (enc:=fun z:Int=>[.ag (zc z)]) (fun a b e=>by
  simp only [List.cons.injEq,and_true,PV.ag.injEq] at e
  rw [eM e]) trivial
theorem Bi:aI MD.P t37:=aH
 (aj (au fun x h=>xG x h)
 (aj (au fun x _=>CR x.1 x.2)
 (aj (au fun z _=>Cs z)
 (aj (au fun n h=>oX n h.1 h.2)
 (aj (au fun x h=>HX x.1 x.2 h.1 h.2.1 h.2.2.1 h.2.2.2) aE)))))
def ax.BT (x:ax):Prop:=((Sm x.a∧Sm x.b)∧(Sm x.c∧Sm x.d))∧Sm x.n
theorem ax.BT.small {x:ax} (h:x.BT):x.small:=by
 obtain ⟨⟨⟨h1,h2⟩,h3,h4⟩,h5⟩:=h
 unfold Sm at*
 exact ⟨⟨by omega,by omega⟩,⟨by omega,by omega⟩,by omega⟩
def ax.sg (x:ax):Int:=if x.n<0 then -(x.gcd:Int) else x.gcd
def ax.low (x:ax):ax:=⟨x.a / x.sg,x.b / x.sg,x.c / x.sg,x.d / x.sg,x.n / x.sg⟩
theorem ax.gcd_dvd (x:ax):((x.gcd:Int)∣x.a∧(x.gcd:Int)∣x.b)∧((x.gcd:Int)∣x.c∧(x.gcd:Int)∣x.d)∧(x.gcd:Int)∣x.n:=by
 have d4:=Nat.gcd_dvd_left (Nat.gcd (Nat.gcd (Nat.gcd x.n.natAbs x.a.natAbs) x.b.natAbs) x.c.natAbs) x.d.natAbs
 have d3:=Nat.dvd_trans d4 (Nat.gcd_dvd_left (Nat.gcd (Nat.gcd x.n.natAbs x.a.natAbs) x.b.natAbs) x.c.natAbs)
 have d2:=Nat.dvd_trans d3 (Nat.gcd_dvd_left (Nat.gcd x.n.natAbs x.a.natAbs) x.b.natAbs)
 have d1:=Nat.dvd_trans d2 (Nat.gcd_dvd_left x.n.natAbs x.a.natAbs)
 simp only [Int.ofNat_dvd_left]
 exact ⟨⟨Nat.dvd_trans d2 (Nat.gcd_dvd_right _ _),Nat.dvd_trans d3 (Nat.gcd_dvd_right _ _)⟩,⟨Nat.dvd_trans d4 (Nat.gcd_dvd_right _ _),Nat.gcd_dvd_right _ _⟩,d1⟩
theorem ax.wW {x:ax} (h:x.n≠0):0<x.gcd:=by
 rcases Nat.eq_zero_or_pos x.gcd with h0|h0
 · have:=x.gcd_dvd.2.2
   rw [h0] at this
   exact absurd (Int.zero_dvd.1 this) h
 · exact h0
theorem ax.rW (x:ax):(x.sg∣x.a∧x.sg∣x.b)∧(x.sg∣x.c∧x.sg∣x.d)∧x.sg∣x.n:=by
 have:=x.gcd_dvd
 unfold ax.sg
 split
 · simpa [Int.neg_dvd] using this
 · exact this
theorem ax.PO {x:ax} (h:x.n≠0) (hs:Sm x.n):Sm (x.gcd:Int)∧Sm x.sg:=by
 have h1:x.gcd≤x.n.natAbs:=Nat.le_of_dvd (by omega) (by have:=x.gcd_dvd.2.2;rwa [Int.ofNat_dvd_left] at this)
 have h2:Sm (x.gcd:Int):=by
  unfold Sm at*
  exact Nat.lt_of_le_of_lt (yx (by simpa using h1)) hs
 refine ⟨h2, ?_⟩
 unfold ax.sg
 split
 · unfold Sm at *;rw [Int.natAbs_neg];exact h2
 · exact h2
theorem Ap (x:ax) (h0:x.n≠0) (hs:x.BT):az P0 86 [.ag (zc x.a++zc x.b++zc x.c++zc x.d), .ag (zc x.n)] (one (.ag x.low.cells)):=by
 have c:=B0 hs.small
 have s:=xq (decide (x.n<0)) (ai x.n.natAbs)
 rw [A9] at s
 have o:=jU (n:=1) (by decide) (by decide)
 have hg:=ax.wW h0
 have Fx:=ax.PO h0 hs.2
 have hd:=x.rW
 have hne:x.sg≠0:=by unfold ax.sg;split<;>omega
 obtain ⟨⟨⟨ha,hb⟩,hc,hd'⟩,hn⟩:=hs
 have qa:=nj hne hd.1.1 ha Fx.2
 have qb:=nj hne hd.1.2 hb Fx.2
 have qc:=nj hne hd.2.1.1 hc Fx.2
 have qd:=nj hne hd.2.1.2 hd' Fx.2
 have qn:=nj hne hd.2.2 hn Fx.2
 have Qb:∀z:Int,(RI.mk (decide (z<0)) (ai z.natAbs)).dB (RI.mk (decide ((1:Int)<0)) (ai (1:Int).natAbs))=decide (z=1):=by
  intro z
  by_cases hz:z=1
  · subst hz;rw [decide_eq_true rfl];exact RI.er.2 rfl
  · rw [decide_eq_false hz]
    refine Bool.eq_false_iff.2 fun h=>hz ?_
    have:=RI.er.1 h
    simp only [RI.mk.injEq] at this
    have h1:=p9 this.2
    have h2:(z<0)↔((1:Int)<0):=by simpa using this.1
    omega
 by_cases hneg:x.n<0
 · have es:x.sg= -(x.gcd:Int):=by unfold ax.sg;rw [if_pos hneg]
   rw [if_pos hneg] at s
   have ng:=mZ (x.gcd:Int)
   rw [←es] at ng
   have e:=wR (m:=15) (n:=16) (Qb x.sg)
   have e0:decide (x.sg=1)=false:=decide_eq_false (by omega)
   rw [e0] at e
   exact ah af Bi (by rfl) (Xg 5 (decide (x.a<0)) (decide (x.b<0)) (decide (x.c<0)) (decide (x.d<0)) (decide (x.n<0)) (decide ((x.gcd:Int)<0)) (decide (x.sg<0)) (decide (x.a / x.sg<0)) (decide (x.b / x.sg<0)) (decide (x.c / x.sg<0)) (decide (x.d / x.sg<0)) (decide (x.n / x.sg<0)) (ai x.a.natAbs) (ai x.b.natAbs) (ai x.c.natAbs) (ai x.d.natAbs) (ai x.n.natAbs) (ai (x.gcd:Int).natAbs) (ai x.sg.natAbs) (ai (1:Int).natAbs) (ai (x.a / x.sg).natAbs) (ai (x.b / x.sg).natAbs) (ai (x.c / x.sg).natAbs) (ai (x.d / x.sg).natAbs) (ai (x.n / x.sg).natAbs) (-1)) ⟨c,s,rfl,ng,o,e,Nat.le_refl _,rfl,qa,rfl,qb,rfl,qc,rfl,qd,rfl,qn,trivial⟩
 · have es:x.sg=(x.gcd:Int):=by unfold ax.sg;rw [if_neg hneg]
   rw [if_neg hneg,if_neg h0] at s
   have e:=wR (m:=15) (n:=16) (Qb x.sg)
   by_cases h1:x.sg=1
   · have e0:decide (x.sg=1)=true:=decide_eq_true h1
     rw [e0,es] at e
     have el:x.low=x:=by
      unfold ax.low
      rw [h1]
      simp only [Int.ediv_one]
     rw [el]
     exact ah af Bi (by rfl) (Xe 5 (decide (x.a<0)) (decide (x.b<0)) (decide (x.c<0)) (decide (x.d<0)) (decide (x.n<0)) (decide ((x.gcd:Int)<0)) (ai x.a.natAbs) (ai x.b.natAbs) (ai x.c.natAbs) (ai x.d.natAbs) (ai x.n.natAbs) (ai (x.gcd:Int).natAbs) (ai (1:Int).natAbs) 1) ⟨c,s,rfl,o,e,trivial⟩
   · have e0:decide (x.sg=1)=false:=decide_eq_false h1
     rw [e0] at e
     rw [←es] at c
     exact ah af Bi (by rfl) (Xf 5 (decide (x.a<0)) (decide (x.b<0)) (decide (x.c<0)) (decide (x.d<0)) (decide (x.n<0)) (decide (x.sg<0)) (decide (x.a / x.sg<0)) (decide (x.b / x.sg<0)) (decide (x.c / x.sg<0)) (decide (x.d / x.sg<0)) (decide (x.n / x.sg<0)) (ai x.a.natAbs) (ai x.b.natAbs) (ai x.c.natAbs) (ai x.d.natAbs) (ai x.n.natAbs) (ai x.sg.natAbs) (ai (1:Int).natAbs) (ai (x.a / x.sg).natAbs) (ai (x.b / x.sg).natAbs) (ai (x.c / x.sg).natAbs) (ai (x.d / x.sg).natAbs) (ai (x.n / x.sg).natAbs) 1) ⟨c,s,rfl,o,e,Nat.le_refl _,rfl,qa,rfl,qb,rfl,qc,rfl,qd,rfl,qn,trivial⟩
end Go.Proofs.YtibbgjafjhcemaaDoor.Cul
namespace Go.Proofs.YtibbgjafjhcemaaDoor.Cul
open Go Go.RowKit
noncomputable def DM:List PV→Option RV:=bJ (fun x:Int×Int=>Sm x.1∧Sm x.2) (fun x=>[.ag (zc x.1), .ag (zc x.2)]) (fun x=>one (.ag (zc (x.1* x.2))))
noncomputable def Da:List PV→Option RV:=bJ (fun x:Int×Int=>Sm x.1∧Sm x.2) (fun x=>[.ag (zc x.1), .ag (zc x.2)]) (fun x=>one (.ag (zc (x.1+x.2))))
noncomputable def DJ:List PV→Option RV:=bJ (fun x:ax=>x.n≠0∧x.BT) (fun x=>[.ag (zc x.a++zc x.b++zc x.c++zc x.d), .ag (zc x.n)]) (fun x=>one (.ag x.low.cells))
noncomputable def t38:Cl:=bI [(84,Da),(85,DM),(86,DJ),(66,xl)]
theorem XW (k i j:Nat) (g h:Bool) (s t:ByteArray) (X Y Z A xs ys:List PV):aA MD t38 k 67 1 ⟨[(2, .bp 2 0),(3, .bp 3 0),(4, .bp 4 0),(5, .bp 5 0),(6, .pv (iv i)),(7, .bp 7 0),(12, .pv (.ag xs)),(13, .pv (iv i)),(18, .pv (.ag ys)),(19, .pv (iv j))],[(2,X),(3,Y),(4,Z),(5,A),(7,[bv g,sv s])],[],[]⟩ [.c true, .e 22 (iz h t), .c true, .i 53 (j+1:Nat)]=
 some ((Xt.normal,St.mk [(2,AV.bp 2 0),(3,AV.bp 3 0),(4,AV.bp 4 0),(5,AV.bp 5 0),(6,AV.pv (PV.lit (Value.int IntKind.i64 (↑i:Int)))),(7,AV.bp 7 0),(12,AV.pv (PV.ag xs)),(13,AV.pv (PV.lit (Value.int IntKind.i64 (↑i:Int)))),(18,AV.pv (PV.ag ys)),(19,AV.pv (PV.lit (Value.int IntKind.i64 (↑(j+(1:Nat)):Int))))] [(2,X),(3,Y),(4,Z),(5,A),(7,[PV.lit (Value.bool g),PV.lit (Value.string s)])] [] []),[],[decide ((↑j:Int)<(4:Int))=true,(0:Int)≤(↑j:Int)∧(↑j:Int)<(↑(4:Nat):Int),Ld MD.P 27 ys ((↑j:Int).toNat* 2) (PV.ag [PV.lit (Value.bool h),PV.lit (Value.string t)]),(s.toList==(ByteArray.mk #[]).toList)=true,IntKind.i64.wrap ((↑j:Int)+(1:Int))=(↑(j+(1:Nat)):Int)]):=by kernel_rfl
theorem XX (k i j:Nat) (g h:Bool) (s t:ByteArray) (X Y Z A xs ys:List PV):aA MD t38 k 67 1 ⟨[(2, .bp 2 0),(3, .bp 3 0),(4, .bp 4 0),(5, .bp 5 0),(6, .pv (iv i)),(7, .bp 7 0),(12, .pv (.ag xs)),(13, .pv (iv i)),(18, .pv (.ag ys)),(19, .pv (iv j))],[(2,X),(3,Y),(4,Z),(5,A),(7,[bv g,sv s])],[],[]⟩ [.c true, .e 22 (iz h t), .c false, .c true, .i 53 (j+1:Nat)]=
 some ((Xt.normal,St.mk [(2,AV.bp 2 0),(3,AV.bp 3 0),(4,AV.bp 4 0),(5,AV.bp 5 0),(6,AV.pv (PV.lit (Value.int IntKind.i64 (↑i:Int)))),(7,AV.bp 7 0),(12,AV.pv (PV.ag xs)),(13,AV.pv (PV.lit (Value.int IntKind.i64 (↑i:Int)))),(18,AV.pv (PV.ag ys)),(19,AV.pv (PV.lit (Value.int IntKind.i64 (↑(j+(1:Nat)):Int))))] [(2,X),(3,Y),(4,Z),(5,A),(7,[PV.lit (Value.bool g),PV.lit (Value.string s)])] [] []),[],[decide ((↑j:Int)<(4:Int))=true,(0:Int)≤(↑j:Int)∧(↑j:Int)<(↑(4:Nat):Int),Ld MD.P 27 ys ((↑j:Int).toNat* 2) (PV.ag [PV.lit (Value.bool h),PV.lit (Value.string t)]),(s.toList==(ByteArray.mk #[]).toList)=false,(t.toList==(ByteArray.mk #[]).toList)=true,IntKind.i64.wrap ((↑j:Int)+(1:Int))=(↑(j+(1:Nat)):Int)]):=by kernel_rfl
theorem XY (k i j m b v q:Nat) (g h e f e2 e3 e4:Bool) (s t u w u2 u3 u4:ByteArray) (X Y Z A A' xs ys:List PV):aA MD t38 k 67 1 ⟨[(2, .bp 2 0),(3, .bp 3 0),(4, .bp 4 0),(5, .bp 5 0),(6, .pv (iv i)),(7, .bp 7 0),(12, .pv (.ag xs)),(13, .pv (iv i)),(18, .pv (.ag ys)),(19, .pv (iv j))],[(2,X),(3,Y),(4,Z),(5,A),(7,[bv g,sv s])],[],[]⟩ [.c true, .e 22 (iz h t), .c false, .c false, .i 33 m, .i 34 b, .i 35 v, .i 36 v, .r (one (iz e u)), .i 40 q, .i 43 q, .j 44 q, .e 45 (iz f w), .r (one (iz e2 u2)), .r (one (iz e3 u3)), .r (one (iz e4 u4)), .j 52 q, .s A', .i 53 (j+1:Nat)]=
 some ((Xt.normal,St.mk [(2,AV.bp 2 0),(3,AV.bp 3 0),(4,AV.bp 4 0),(5,AV.bp 5 0),(6,AV.pv (PV.lit (Value.int IntKind.i64 (↑i:Int)))),(7,AV.bp 7 0),(12,AV.pv (PV.ag xs)),(13,AV.pv (PV.lit (Value.int IntKind.i64 (↑i:Int)))),(18,AV.pv (PV.ag ys)),(19,AV.pv (PV.lit (Value.int IntKind.i64 (↑(j+(1:Nat)):Int))))] [(2,X),(3,Y),(4,Z),(5,A'),(7,[PV.lit (Value.bool g),PV.lit (Value.string s)])] [] []),[],[decide ((↑j:Int)<(4:Int))=true,(0:Int)≤(↑j:Int)∧(↑j:Int)<(↑(4:Nat):Int),Ld MD.P 27 ys ((↑j:Int).toNat* 2) (PV.ag [PV.lit (Value.bool h),PV.lit (Value.string t)]),(s.toList==(ByteArray.mk #[]).toList)=false,(t.toList==(ByteArray.mk #[]).toList)=false,IntKind.i64.wrap (↑(BitVec.ofInt IntKind.i64.bits (↑i:Int)&&&BitVec.ofInt IntKind.i64.bits (↑j:Int)).toNat:Int)=(↑m:Int),eE (ByteArray.mk #[(49:UInt8),(50:UInt8),(51:UInt8),(54:UInt8)]) (↑m:Int) (↑b:Int),IntKind.u8.wrap ((↑b:Int) - (48:Int))=(↑v:Int),IntKind.i64.wrap (↑v:Int)=(↑v:Int),aa t38 66 [PV.lit (Value.int IntKind.i64 (↑v:Int))] (RV.mk (PV.ag [PV.lit (Value.bool e),PV.lit (Value.string u)]) none),IntKind.i64.wrap (↑(BitVec.ofInt IntKind.i64.bits (↑i:Int)^^^BitVec.ofInt IntKind.i64.bits (↑j:Int)).toNat:Int)=(↑q:Int),IntKind.i64.wrap (↑(BitVec.ofInt IntKind.i64.bits (↑i:Int)^^^BitVec.ofInt IntKind.i64.bits (↑j:Int)).toNat:Int)=(↑q:Int),aK (↑q:Int) 4 q,Ld MD.P 27 A (0+q* 2) (PV.ag [PV.lit (Value.bool f),PV.lit (Value.string w)]),aa t38 85 [PV.ag [PV.lit (Value.bool g),PV.lit (Value.string s)],PV.ag [PV.lit (Value.bool h),PV.lit (Value.string t)]] (RV.mk (PV.ag [PV.lit (Value.bool e2),PV.lit (Value.string u2)]) none),aa t38 85 [PV.ag [PV.lit (Value.bool e),PV.lit (Value.string u)],PV.ag [PV.lit (Value.bool e2),PV.lit (Value.string u2)]] (RV.mk (PV.ag [PV.lit (Value.bool e3),PV.lit (Value.string u3)]) none),aa t38 84 [PV.ag [PV.lit (Value.bool f),PV.lit (Value.string w)],PV.ag [PV.lit (Value.bool e3),PV.lit (Value.string u3)]] (RV.mk (PV.ag [PV.lit (Value.bool e4),PV.lit (Value.string u4)]) none),aK (↑q:Int) 4 q,0+q* 2+2≤A.length,cg A (0+q* 2) [PV.lit (Value.bool e4),PV.lit (Value.string u4)] A',IntKind.i64.wrap ((↑j:Int)+(1:Int))=(↑(j+(1:Nat)):Int)]):=by kernel_rfl
theorem XZ (k i j:Nat) (g:Bool) (s:ByteArray) (X Y Z A xs ys:List PV):aA MD t38 k 67 1 ⟨[(2, .bp 2 0),(3, .bp 3 0),(4, .bp 4 0),(5, .bp 5 0),(6, .pv (iv i)),(7, .bp 7 0),(12, .pv (.ag xs)),(13, .pv (iv i)),(18, .pv (.ag ys)),(19, .pv (iv j))],[(2,X),(3,Y),(4,Z),(5,A),(7,[bv g,sv s])],[],[]⟩ [.c false]=
 some ((Xt.exit 2,St.mk [(2,AV.bp 2 0),(3,AV.bp 3 0),(4,AV.bp 4 0),(5,AV.bp 5 0),(6,AV.pv (PV.lit (Value.int IntKind.i64 (↑i:Int)))),(7,AV.bp 7 0),(12,AV.pv (PV.ag xs)),(13,AV.pv (PV.lit (Value.int IntKind.i64 (↑i:Int)))),(18,AV.pv (PV.ag ys)),(19,AV.pv (PV.lit (Value.int IntKind.i64 (↑j:Int)))),(20,AV.pv (PV.lit (Value.bool false)))] [(2,X),(3,Y),(4,Z),(5,A),(7,[PV.lit (Value.bool g),PV.lit (Value.string s)])] [] []),[],[decide ((↑j:Int)<(4:Int))=false]):=by kernel_rfl
theorem XU (k i:Nat) (g:Bool) (s:ByteArray) (x0 x1 x2 x3 xn y0 y1 y2 y3 yn:Int) (Z A A':List PV):aA MD t38 k 67 0 ⟨[(2, .bp 2 0),(3, .bp 3 0),(4, .bp 4 0),(5, .bp 5 0),(12, .pv (.ag (zc x0++zc x1++zc x2++zc x3))),(13, .pv (iv i))],[(2,zc x0++zc x1++zc x2++zc x3++zc xn),(3,zc y0++zc y1++zc y2++zc y3++zc yn),(4,Z),(5,A)],[],[]⟩ [.c true, .e 16 (iz g s), .l (.exit 2) ⟨[(2, .bp 2 0),(3, .bp 3 0),(4, .bp 4 0),(5, .bp 5 0),(6, .pv (iv i)),(7, .bp 7 0),(12, .pv (.ag (zc x0++zc x1++zc x2++zc x3))),(13, .pv (iv i)),(18, .pv (.ag (zc y0++zc y1++zc y2++zc y3))),(19, .pv (iv 4)),(20, .pv (bv false))],[(2,zc x0++zc x1++zc x2++zc x3++zc xn),(3,zc y0++zc y1++zc y2++zc y3++zc yn),(4,Z),(5,A'),(7,[bv g,sv s])],[],[]⟩, .i 54 (i+1:Nat)]=
 some ((Xt.normal,St.mk [(2,AV.bp 2 0),(3,AV.bp 3 0),(4,AV.bp 4 0),(5,AV.bp 5 0),(12,AV.pv (PV.ag [PV.lit (Value.bool (decide (x0<(0:Int)))),PV.lit (Value.string (ai x0.natAbs)),PV.lit (Value.bool (decide (x1<(0:Int)))),PV.lit (Value.string (ai x1.natAbs)),PV.lit (Value.bool (decide (x2<(0:Int)))),PV.lit (Value.string (ai x2.natAbs)),PV.lit (Value.bool (decide (x3<(0:Int)))),PV.lit (Value.string (ai x3.natAbs))])),(13,AV.pv (PV.lit (Value.int IntKind.i64 (↑(i+(1:Nat)):Int))))] [(2,[PV.lit (Value.bool (decide (x0<(0:Int)))),PV.lit (Value.string (ai x0.natAbs)),PV.lit (Value.bool (decide (x1<(0:Int)))),PV.lit (Value.string (ai x1.natAbs)),PV.lit (Value.bool (decide (x2<(0:Int)))),PV.lit (Value.string (ai x2.natAbs)),PV.lit (Value.bool (decide (x3<(0:Int)))),PV.lit (Value.string (ai x3.natAbs)),PV.lit (Value.bool (decide (xn<(0:Int)))),PV.lit (Value.string (ai xn.natAbs))]),(3,[PV.lit (Value.bool (decide (y0<(0:Int)))),PV.lit (Value.string (ai y0.natAbs)),PV.lit (Value.bool (decide (y1<(0:Int)))),PV.lit (Value.string (ai y1.natAbs)),PV.lit (Value.bool (decide (y2<(0:Int)))),PV.lit (Value.string (ai y2.natAbs)),PV.lit (Value.bool (decide (y3<(0:Int)))),PV.lit (Value.string (ai y3.natAbs)),PV.lit (Value.bool (decide (yn<(0:Int)))),PV.lit (Value.string (ai yn.natAbs))]),(4,Z),(5,A')] [] []),[],[decide ((↑i:Int)<(4:Int))=true,(0:Int)≤(↑i:Int)∧(↑i:Int)<(↑(4:Nat):Int),Ld MD.P 27 [PV.lit (Value.bool (decide (x0<(0:Int)))),PV.lit (Value.string (ai x0.natAbs)),PV.lit (Value.bool (decide (x1<(0:Int)))),PV.lit (Value.string (ai x1.natAbs)),PV.lit (Value.bool (decide (x2<(0:Int)))),PV.lit (Value.string (ai x2.natAbs)),PV.lit (Value.bool (decide (x3<(0:Int)))),PV.lit (Value.string (ai x3.natAbs))] ((↑i:Int).toNat* 2) (PV.ag [PV.lit (Value.bool g),PV.lit (Value.string s)]),aW MD t38 k (67:Nat) (1:Nat) (St.mk [(2,AV.bp 2 0),(3,AV.bp 3 0),(4,AV.bp 4 0),(5,AV.bp 5 0),(6,AV.pv (PV.lit (Value.int IntKind.i64 (↑i:Int)))),(7,AV.bp 7 0),(12,AV.pv (PV.ag [PV.lit (Value.bool (decide (x0<(0:Int)))),PV.lit (Value.string (ai x0.natAbs)),PV.lit (Value.bool (decide (x1<(0:Int)))),PV.lit (Value.string (ai x1.natAbs)),PV.lit (Value.bool (decide (x2<(0:Int)))),PV.lit (Value.string (ai x2.natAbs)),PV.lit (Value.bool (decide (x3<(0:Int)))),PV.lit (Value.string (ai x3.natAbs))])),(13,AV.pv (PV.lit (Value.int IntKind.i64 (↑i:Int)))),(18,AV.pv (PV.ag [PV.lit (Value.bool (decide (y0<(0:Int)))),PV.lit (Value.string (ai y0.natAbs)),PV.lit (Value.bool (decide (y1<(0:Int)))),PV.lit (Value.string (ai y1.natAbs)),PV.lit (Value.bool (decide (y2<(0:Int)))),PV.lit (Value.string (ai y2.natAbs)),PV.lit (Value.bool (decide (y3<(0:Int)))),PV.lit (Value.string (ai y3.natAbs))])),(19,AV.pv (PV.lit (Value.int IntKind.i64 (0:Int))))] [(2,[PV.lit (Value.bool (decide (x0<(0:Int)))),PV.lit (Value.string (ai x0.natAbs)),PV.lit (Value.bool (decide (x1<(0:Int)))),PV.lit (Value.string (ai x1.natAbs)),PV.lit (Value.bool (decide (x2<(0:Int)))),PV.lit (Value.string (ai x2.natAbs)),PV.lit (Value.bool (decide (x3<(0:Int)))),PV.lit (Value.string (ai x3.natAbs)),PV.lit (Value.bool (decide (xn<(0:Int)))),PV.lit (Value.string (ai xn.natAbs))]),(3,[PV.lit (Value.bool (decide (y0<(0:Int)))),PV.lit (Value.string (ai y0.natAbs)),PV.lit (Value.bool (decide (y1<(0:Int)))),PV.lit (Value.string (ai y1.natAbs)),PV.lit (Value.bool (decide (y2<(0:Int)))),PV.lit (Value.string (ai y2.natAbs)),PV.lit (Value.bool (decide (y3<(0:Int)))),PV.lit (Value.string (ai y3.natAbs)),PV.lit (Value.bool (decide (yn<(0:Int)))),PV.lit (Value.string (ai yn.natAbs))]),(4,Z),(5,A),(7,[PV.lit (Value.bool g),PV.lit (Value.string s)])] [] []) (Xt.exit 2) (St.mk [(2,AV.bp 2 0),(3,AV.bp 3 0),(4,AV.bp 4 0),(5,AV.bp 5 0),(6,AV.pv (PV.lit (Value.int IntKind.i64 (↑i:Int)))),(7,AV.bp 7 0),(12,AV.pv (PV.ag [PV.lit (Value.bool (decide (x0<(0:Int)))),PV.lit (Value.string (ai x0.natAbs)),PV.lit (Value.bool (decide (x1<(0:Int)))),PV.lit (Value.string (ai x1.natAbs)),PV.lit (Value.bool (decide (x2<(0:Int)))),PV.lit (Value.string (ai x2.natAbs)),PV.lit (Value.bool (decide (x3<(0:Int)))),PV.lit (Value.string (ai x3.natAbs))])),(13,AV.pv (PV.lit (Value.int IntKind.i64 (↑i:Int)))),(18,AV.pv (PV.ag [PV.lit (Value.bool (decide (y0<(0:Int)))),PV.lit (Value.string (ai y0.natAbs)),PV.lit (Value.bool (decide (y1<(0:Int)))),PV.lit (Value.string (ai y1.natAbs)),PV.lit (Value.bool (decide (y2<(0:Int)))),PV.lit (Value.string (ai y2.natAbs)),PV.lit (Value.bool (decide (y3<(0:Int)))),PV.lit (Value.string (ai y3.natAbs))])),(19,AV.pv (PV.lit (Value.int IntKind.i64 (4:Int)))),(20,AV.pv (PV.lit (Value.bool false)))] [(2,[PV.lit (Value.bool (decide (x0<(0:Int)))),PV.lit (Value.string (ai x0.natAbs)),PV.lit (Value.bool (decide (x1<(0:Int)))),PV.lit (Value.string (ai x1.natAbs)),PV.lit (Value.bool (decide (x2<(0:Int)))),PV.lit (Value.string (ai x2.natAbs)),PV.lit (Value.bool (decide (x3<(0:Int)))),PV.lit (Value.string (ai x3.natAbs)),PV.lit (Value.bool (decide (xn<(0:Int)))),PV.lit (Value.string (ai xn.natAbs))]),(3,[PV.lit (Value.bool (decide (y0<(0:Int)))),PV.lit (Value.string (ai y0.natAbs)),PV.lit (Value.bool (decide (y1<(0:Int)))),PV.lit (Value.string (ai y1.natAbs)),PV.lit (Value.bool (decide (y2<(0:Int)))),PV.lit (Value.string (ai y2.natAbs)),PV.lit (Value.bool (decide (y3<(0:Int)))),PV.lit (Value.string (ai y3.natAbs)),PV.lit (Value.bool (decide (yn<(0:Int)))),PV.lit (Value.string (ai yn.natAbs))]),(4,Z),(5,A'),(7,[PV.lit (Value.bool g),PV.lit (Value.string s)])] [] []),IntKind.i64.wrap ((↑i:Int)+(1:Int))=(↑(i+(1:Nat)):Int)]):=by kernel_rfl
theorem XR (k:Nat) (x0 x1 x2 x3 xn y0 y1 y2 y3 yn p0 p1 p2 p3 n l0 l1 l2 l3 ln:Int):ay MD t38 k 67 [.ag (zc x0++zc x1++zc x2++zc x3++zc xn), .ag (zc y0++zc y1++zc y2++zc y3++zc yn)] [.l (.exit 0) ⟨[(2, .bp 2 0),(3, .bp 3 0),(4, .bp 4 0),(5, .bp 5 0),(12, .pv (.ag (zc x0++zc x1++zc x2++zc x3))),(13, .pv (iv 4)),(14, .pv (bv false))],[(2,zc x0++zc x1++zc x2++zc x3++zc xn),(3,zc y0++zc y1++zc y2++zc y3++zc yn),(4,zc 0++zc 0++zc 0++zc 0++zc 0),(5,zc p0++zc p1++zc p2++zc p3)],[],[]⟩, .r (one (.ag (zc n))), .r (one (.ag (zc l0++zc l1++zc l2++zc l3++zc ln)))]=
 some (RV.mk (PV.ag [PV.lit (Value.bool (decide (l0<(0:Int)))),PV.lit (Value.string (ai l0.natAbs)),PV.lit (Value.bool (decide (l1<(0:Int)))),PV.lit (Value.string (ai l1.natAbs)),PV.lit (Value.bool (decide (l2<(0:Int)))),PV.lit (Value.string (ai l2.natAbs)),PV.lit (Value.bool (decide (l3<(0:Int)))),PV.lit (Value.string (ai l3.natAbs)),PV.lit (Value.bool (decide (ln<(0:Int)))),PV.lit (Value.string (ai ln.natAbs))]) none,[aW MD t38 k (67:Nat) (0:Nat) (St.mk [(2,AV.bp 2 0),(3,AV.bp 3 0),(4,AV.bp 4 0),(5,AV.bp 5 0),(12,AV.pv (PV.ag [PV.lit (Value.bool (decide (x0<(0:Int)))),PV.lit (Value.string (ai x0.natAbs)),PV.lit (Value.bool (decide (x1<(0:Int)))),PV.lit (Value.string (ai x1.natAbs)),PV.lit (Value.bool (decide (x2<(0:Int)))),PV.lit (Value.string (ai x2.natAbs)),PV.lit (Value.bool (decide (x3<(0:Int)))),PV.lit (Value.string (ai x3.natAbs))])),(13,AV.pv (PV.lit (Value.int IntKind.i64 (0:Int))))] [(2,[PV.lit (Value.bool (decide (x0<(0:Int)))),PV.lit (Value.string (ai x0.natAbs)),PV.lit (Value.bool (decide (x1<(0:Int)))),PV.lit (Value.string (ai x1.natAbs)),PV.lit (Value.bool (decide (x2<(0:Int)))),PV.lit (Value.string (ai x2.natAbs)),PV.lit (Value.bool (decide (x3<(0:Int)))),PV.lit (Value.string (ai x3.natAbs)),PV.lit (Value.bool (decide (xn<(0:Int)))),PV.lit (Value.string (ai xn.natAbs))]),(3,[PV.lit (Value.bool (decide (y0<(0:Int)))),PV.lit (Value.string (ai y0.natAbs)),PV.lit (Value.bool (decide (y1<(0:Int)))),PV.lit (Value.string (ai y1.natAbs)),PV.lit (Value.bool (decide (y2<(0:Int)))),PV.lit (Value.string (ai y2.natAbs)),PV.lit (Value.bool (decide (y3<(0:Int)))),PV.lit (Value.string (ai y3.natAbs)),PV.lit (Value.bool (decide (yn<(0:Int)))),PV.lit (Value.string (ai yn.natAbs))]),(4,[PV.lit (Value.bool false),PV.lit (Value.string (ByteArray.mk #[])),PV.lit (Value.bool false),PV.lit (Value.string (ByteArray.mk #[])),PV.lit (Value.bool false),PV.lit (Value.string (ByteArray.mk #[])),PV.lit (Value.bool false),PV.lit (Value.string (ByteArray.mk #[])),PV.lit (Value.bool false),PV.lit (Value.string (ByteArray.mk #[]))]),(5,[PV.lit (Value.bool false),PV.lit (Value.string (ByteArray.mk #[])),PV.lit (Value.bool false),PV.lit (Value.string (ByteArray.mk #[])),PV.lit (Value.bool false),PV.lit (Value.string (ByteArray.mk #[])),PV.lit (Value.bool false),PV.lit (Value.string (ByteArray.mk #[]))])] [] []) (Xt.exit 0) (St.mk [(2,AV.bp 2 0),(3,AV.bp 3 0),(4,AV.bp 4 0),(5,AV.bp 5 0),(12,AV.pv (PV.ag [PV.lit (Value.bool (decide (x0<(0:Int)))),PV.lit (Value.string (ai x0.natAbs)),PV.lit (Value.bool (decide (x1<(0:Int)))),PV.lit (Value.string (ai x1.natAbs)),PV.lit (Value.bool (decide (x2<(0:Int)))),PV.lit (Value.string (ai x2.natAbs)),PV.lit (Value.bool (decide (x3<(0:Int)))),PV.lit (Value.string (ai x3.natAbs))])),(13,AV.pv (PV.lit (Value.int IntKind.i64 (4:Int)))),(14,AV.pv (PV.lit (Value.bool false)))] [(2,[PV.lit (Value.bool (decide (x0<(0:Int)))),PV.lit (Value.string (ai x0.natAbs)),PV.lit (Value.bool (decide (x1<(0:Int)))),PV.lit (Value.string (ai x1.natAbs)),PV.lit (Value.bool (decide (x2<(0:Int)))),PV.lit (Value.string (ai x2.natAbs)),PV.lit (Value.bool (decide (x3<(0:Int)))),PV.lit (Value.string (ai x3.natAbs)),PV.lit (Value.bool (decide (xn<(0:Int)))),PV.lit (Value.string (ai xn.natAbs))]),(3,[PV.lit (Value.bool (decide (y0<(0:Int)))),PV.lit (Value.string (ai y0.natAbs)),PV.lit (Value.bool (decide (y1<(0:Int)))),PV.lit (Value.string (ai y1.natAbs)),PV.lit (Value.bool (decide (y2<(0:Int)))),PV.lit (Value.string (ai y2.natAbs)),PV.lit (Value.bool (decide (y3<(0:Int)))),PV.lit (Value.string (ai y3.natAbs)),PV.lit (Value.bool (decide (yn<(0:Int)))),PV.lit (Value.string (ai yn.natAbs))]),(4,[PV.lit (Value.bool false),PV.lit (Value.string (ByteArray.mk (List.map (fun x=>UInt8.ofNat x) (dg (256:Nat) (Int.natAbs (0:Int))).reverse).toArray)),PV.lit (Value.bool false),PV.lit (Value.string (ByteArray.mk (List.map (fun x=>UInt8.ofNat x) (dg (256:Nat) (Int.natAbs (0:Int))).reverse).toArray)),PV.lit (Value.bool false),PV.lit (Value.string (ByteArray.mk (List.map (fun x=>UInt8.ofNat x) (dg (256:Nat) (Int.natAbs (0:Int))).reverse).toArray)),PV.lit (Value.bool false),PV.lit (Value.string (ByteArray.mk (List.map (fun x=>UInt8.ofNat x) (dg (256:Nat) (Int.natAbs (0:Int))).reverse).toArray)),PV.lit (Value.bool false),PV.lit (Value.string (ByteArray.mk (List.map (fun x=>UInt8.ofNat x) (dg (256:Nat) (Int.natAbs (0:Int))).reverse).toArray))]),(5,[PV.lit (Value.bool (decide (p0<(0:Int)))),PV.lit (Value.string (ai p0.natAbs)),PV.lit (Value.bool (decide (p1<(0:Int)))),PV.lit (Value.string (ai p1.natAbs)),PV.lit (Value.bool (decide (p2<(0:Int)))),PV.lit (Value.string (ai p2.natAbs)),PV.lit (Value.bool (decide (p3<(0:Int)))),PV.lit (Value.string (ai p3.natAbs))])] [] []),aa t38 85 [PV.ag [PV.lit (Value.bool (decide (xn<(0:Int)))),PV.lit (Value.string (ai xn.natAbs))],PV.ag [PV.lit (Value.bool (decide (yn<(0:Int)))),PV.lit (Value.string (ai yn.natAbs))]] (RV.mk (PV.ag [PV.lit (Value.bool (decide (n<(0:Int)))),PV.lit (Value.string (ai n.natAbs))]) none),aa t38 86 [PV.ag [PV.lit (Value.bool (decide (p0<(0:Int)))),PV.lit (Value.string (ai p0.natAbs)),PV.lit (Value.bool (decide (p1<(0:Int)))),PV.lit (Value.string (ai p1.natAbs)),PV.lit (Value.bool (decide (p2<(0:Int)))),PV.lit (Value.string (ai p2.natAbs)),PV.lit (Value.bool (decide (p3<(0:Int)))),PV.lit (Value.string (ai p3.natAbs))],PV.ag [PV.lit (Value.bool (decide (n<(0:Int)))),PV.lit (Value.string (ai n.natAbs))]] (RV.mk (PV.ag [PV.lit (Value.bool (decide (l0<(0:Int)))),PV.lit (Value.string (ai l0.natAbs)),PV.lit (Value.bool (decide (l1<(0:Int)))),PV.lit (Value.string (ai l1.natAbs)),PV.lit (Value.bool (decide (l2<(0:Int)))),PV.lit (Value.string (ai l2.natAbs)),PV.lit (Value.bool (decide (l3<(0:Int)))),PV.lit (Value.string (ai l3.natAbs)),PV.lit (Value.bool (decide (ln<(0:Int)))),PV.lit (Value.string (ai ln.natAbs))]) none)]):=by kernel_rfl
theorem XV (k i:Nat) (X Y Z A xs:List PV):aA MD t38 k 67 0 ⟨[(2, .bp 2 0),(3, .bp 3 0),(4, .bp 4 0),(5, .bp 5 0),(12, .pv (.ag xs)),(13, .pv (iv i))],[(2,X),(3,Y),(4,Z),(5,A)],[],[]⟩ [.c false]=
 some ((Xt.exit 0,St.mk [(2,AV.bp 2 0),(3,AV.bp 3 0),(4,AV.bp 4 0),(5,AV.bp 5 0),(12,AV.pv (PV.ag xs)),(13,AV.pv (PV.lit (Value.int IntKind.i64 (↑i:Int)))),(14,AV.pv (PV.lit (Value.bool false)))] [(2,X),(3,Y),(4,Z),(5,A)] [] []),[],[decide ((↑i:Int)<(4:Int))=false]):=by kernel_rfl
theorem eW {a b:Int} (ha:Sm a) (hb:Sm b):DM [.ag (zc a), .ag (zc b)]=some (one (.ag (zc (a* b)))):=
 aM (a:=(a,b)) (enc:=fun x:Int×Int=>[.ag (zc x.1), .ag (zc x.2)]) (fun a b e=>by rw [sV e]) ⟨ha,hb⟩
theorem mL {a b:Int} (ha:Sm a) (hb:Sm b):Da [.ag (zc a), .ag (zc b)]=some (one (.ag (zc (a+b)))):=
 aM (a:=(a,b)) (enc:=fun x:Int×Int=>[.ag (zc x.1), .ag (zc x.2)]) (fun a b e=>by rw [sV e]) ⟨ha,hb⟩
theorem Ah {x y:ax} (e:[PV.ag (zc x.a++zc x.b++zc x.c++zc x.d), .ag (zc x.n)]=[.ag (zc y.a++zc y.b++zc y.c++zc y.d), .ag (zc y.n)]):x=y:=by
 obtain ⟨a,b,c,d,n⟩:=x
 obtain ⟨a',b',c',d',n'⟩:=y
 simp only [List.cons.injEq,and_true,PV.ag.injEq] at e
 obtain ⟨e1,e2⟩:=e
 have hl:∀z:Int,(zc z).length=2:=fun _=>rfl
 obtain ⟨e1,h4⟩:=List.append_inj' e1 (by rw [hl,hl])
 obtain ⟨e1,h3⟩:=List.append_inj' e1 (by rw [hl,hl])
 obtain ⟨h1,h2⟩:=List.append_inj' e1 (by rw [hl,hl])
 rw [eM h1,eM h2,eM h3,eM h4,eM e2]
theorem xd {x:ax} (h0:x.n≠0) (hs:x.BT):DJ [.ag (zc x.a++zc x.b++zc x.c++zc x.d), .ag (zc x.n)]=some (one (.ag x.low.cells)):=
 aM (enc:=fun x:ax=>[.ag (zc x.a++zc x.b++zc x.c++zc x.d), .ag (zc x.n)]) (fun a b e=>by rw [Ah e]) ⟨h0,hs⟩
theorem OP:aI MD.P t38:=aH
 (aj (au fun x h=>BV x.1 x.2 h.1 h.2)
 (aj (au fun x h=>Cp x.1 x.2 h.1 h.2)
 (aj (au fun x h=>Ap x h.1 h.2)
 (aj (au fun n h=>oX n h.1 h.2) aE))))
def c4 (f:Nat→Int):List PV:=zc (f 0)++zc (f 1)++zc (f 2)++zc (f 3)
def wC (f:Nat→Int) (q:Nat) (z:Int):Nat→Int:=fun k=>if k=q then z else f k
def mm (i j:Nat):Nat:=match i&&&j with
 |0=>1
 |1=>2
 |2=>3
 |_=>6
theorem vw {i:Nat} (h:i<4):i=0∨i=1∨i=2∨i=3:=by omega
theorem WV {f:Nat→Int} {q:Nat} (h:q<4):Ld MD.P 27 (c4 f) (0+q* 2) (.ag (zc (f q))):=by
 rcases vw h with rfl|rfl|rfl|rfl<;>(unfold Ld;kernel_rfl)
theorem QH {f:Nat→Int} {q:Nat} (h:q<4):Ld MD.P 27 (c4 f) ((q:Int).toNat* 2) (.ag (zc (f q))):=by
 rcases vw h with rfl|rfl|rfl|rfl<;>(unfold Ld;kernel_rfl)
theorem TH {f:Nat→Int} {q:Nat} (h:q<4) (z:Int):cg (c4 f) (0+q* 2) (zc z) (c4 (wC f q z)):=by
 rcases vw h with rfl|rfl|rfl|rfl<;>rfl
theorem De {i j:Nat} (hi:i<4) (hj:j<4):(IntKind.i64.wrap (((BitVec.ofInt IntKind.i64.bits (i:Int)&&&BitVec.ofInt IntKind.i64.bits (j:Int)).toNat:Nat):Int)=((i&&&j:Nat):Int)∧IntKind.i64.wrap (((BitVec.ofInt IntKind.i64.bits (i:Int)^^^BitVec.ofInt IntKind.i64.bits (j:Int)).toNat:Nat):Int)=((i^^^j:Nat):Int))∧eE ⟨#[49,50,51,54]⟩ ((i&&&j:Nat):Int) ((48+mm i j:Nat):Int)∧(i^^^j<4∧mm i j≤6):=by
 rcases vw hi with rfl|rfl|rfl|rfl<;>rcases vw hj with rfl|rfl|rfl|rfl<;>exact ⟨⟨by decide,by decide⟩,rfl,by decide,by decide⟩
def kC (x y f:Nat→Int) (i:Nat):Nat→Nat→Int
 |0=>f
 |j+1=>wC (kC x y f i j) (i^^^j) (kC x y f i j (i^^^j)+(mm i j:Int)* (x i* y j))
def ey (x y:Nat→Int):Nat→Nat→Int
 |0=>fun _=>0
 |i+1=>kC x y (ey x y i) i 4
theorem Bo (f:Nat→Int) (q:Nat):wC f q (f q+0)=f:=by
 funext k
 unfold wC
 split
 · rename_i h;rw [h,Int.add_zero]
 · rfl
def SJ (x y f:Nat→Int) (xn yn:Int) (i j:Nat) (e:List (Nat×AV)):St:=⟨(2, .bp 2 0)::(3, .bp 3 0)::(4, .bp 4 0)::(5, .bp 5 0)::(6, .pv (iv i))::(7, .bp 7 0)::(12, .pv (.ag (c4 x)))::(13, .pv (iv i))::(18, .pv (.ag (c4 y)))::(19, .pv (iv j))::e,[(2,c4 x++zc xn),(3,c4 y++zc yn),(4,zc 0++zc 0++zc 0++zc 0++zc 0),(5,c4 f),(7,zc (x i))],[],[]⟩
theorem IN (k i j:Nat) (x y f:Nat→Int) (xn yn:Int) (hi:i<4) (hj:j<4) (sx:Sm (x i)) (sy:Sm (y j)) (YN:Sm (x i* y j)) (sm:Sm ((mm i j:Int)* (x i* y j))) (sf:Sm (f (i^^^j))) (s1:∀n:Nat,n≤6→Sm (n:Int)):
  aP MD t38 k 67 1 (SJ x y f xn yn i j [])=some (.normal,SJ x y (wC f (i^^^j) (f (i^^^j)+(mm i j:Int)* (x i* y j))) xn yn i (j+1) []):=by
 obtain ⟨⟨b1,b2⟩,b3,b4,b5⟩:=De hi hj
 have hl:=QH (f:=y) hj
 have wj:IntKind.i64.wrap ((j:Int)+1)=((j+1:Nat):Int):=aR (by omega) (by omega)
 by_cases hx:x i=0
 · rw [show (mm i j:Int)* (x i* y j)=0 by rw [hx,Int.zero_mul,Int.mul_zero],Bo]
   exact an (XW k i j (decide (x i<0)) (decide (y j<0)) (ai (x i).natAbs) (ai (y j).natAbs) (c4 x++zc xn) (c4 y++zc yn) (zc 0++zc 0++zc 0++zc 0++zc 0) (c4 f) (c4 x) (c4 y)) ⟨decide_eq_true (by omega),⟨by omega,by omega⟩,hl,uh (by rw [hx];rfl),wj,trivial⟩
 · by_cases hy:y j=0
   · rw [show (mm i j:Int)* (x i* y j)=0 by rw [hy,Int.mul_zero,Int.mul_zero],Bo]
     exact an (XX k i j (decide (x i<0)) (decide (y j<0)) (ai (x i).natAbs) (ai (y j).natAbs) (c4 x++zc xn) (c4 y++zc yn) (zc 0++zc 0++zc 0++zc 0++zc 0) (c4 f) (c4 x) (c4 y)) ⟨decide_eq_true (by omega),⟨by omega,by omega⟩,hl,oT (by omega),uh (by rw [hy];rfl),wj,trivial⟩
   · have m1:=eW sx sy
     have m2:=eW (s1 (mm i j) b5) YN
     have m3:=mL sf sm
     have o:=jU (n:=(mm i j:Int)) (by omega) (by omega)
     have w8:IntKind.u8.wrap (((48+mm i j:Nat):Int) - 48)=((mm i j:Nat):Int):=by
      have:((48+mm i j:Nat):Int) - 48=((mm i j:Nat):Int):=by omega
      rw [this]
      obtain ⟨m,hm⟩:∃m,m=mm i j:=⟨_,rfl⟩
      rw [←hm] at b5 ⊢
      have:m=0∨m=1∨m=2∨m=3∨m=4∨m=5∨m=6:=by omega
      rcases this with rfl|rfl|rfl|rfl|rfl|rfl|rfl<;>rfl
     exact an (XY k i j (i&&&j) (48+mm i j) (mm i j) (i^^^j) (decide (x i<0)) (decide (y j<0)) (decide ((mm i j:Int)<0)) (decide (f (i^^^j)<0)) (decide (x i* y j<0)) (decide ((mm i j:Int)* (x i* y j)<0)) (decide (f (i^^^j)+(mm i j:Int)* (x i* y j)<0)) (ai (x i).natAbs) (ai (y j).natAbs) (ai (mm i j:Int).natAbs) (ai (f (i^^^j)).natAbs) (ai (x i* y j).natAbs) (ai ((mm i j:Int)* (x i* y j)).natAbs) (ai (f (i^^^j)+(mm i j:Int)* (x i* y j)).natAbs) (c4 x++zc xn) (c4 y++zc yn) (zc 0++zc 0++zc 0++zc 0++zc 0) (c4 f) (c4 (wC f (i^^^j) (f (i^^^j)+(mm i j:Int)* (x i* y j)))) (c4 x) (c4 y))
      ⟨decide_eq_true (by omega),⟨by omega,by omega⟩,hl,oT (by omega),oT (by omega),b1,b3,w8,aR rfl (by omega),o,b2,b2,⟨rfl,by omega⟩,WV b4,m1,m2,m3,⟨rfl,by omega⟩,by show _≤8;omega,TH b4 _,wj,trivial⟩
theorem wK {x y f:Nat→Int} {i:Nat} {B C:Nat} (hi:i<4) (hf:∀k,(f k).natAbs≤B) (hC:∀j,j<4→6* ((x i).natAbs* (y j).natAbs)≤C):∀j,j≤4→∀k,(kC x y f i j k).natAbs≤B+j* C
 |0,_,k=>by have:=hf k;simp only [kC];omega
 |j+1,hj,k=>by
  have ih:=wK hi hf hC j (by omega)
  have hb:=(De hi (show j<4 by omega)).2.2.2
  have hc:=hC j (by omega)
  have hm:((mm i j:Int)* (x i* y j)).natAbs≤C:=by
   rw [Int.natAbs_mul,Int.natAbs_mul,Int.natAbs_natCast]
   exact Nat.le_trans (Nat.mul_le_mul_right _ hb) hc
  simp only [kC,wC]
  rw [Nat.succ_mul]
  split
  · have:=ih (i^^^j)
    have h2:=Int.natAbs_add_le (kC x y f i j (i^^^j)) ((mm i j:Int)* (x i* y j))
    omega
  · have:=ih k;omega
theorem wJ {x y:Nat→Int} {C:Nat} (hC:∀i j,i<4→j<4→6* ((x i).natAbs* (y j).natAbs)≤C):∀i,i≤4→∀k,(ey x y i k).natAbs≤i* (4* C)
 |0,_,k=>by simp [ey]
 |i+1,hi,k=>by
  have:=wK (B:=i* (4* C)) (C:=C) (show i<4 by omega) (wJ hC i (by omega)) (fun j hj=>hC i j (by omega) hj) 4 (Nat.le_refl _) k
  simp only [ey]
  rw [Nat.succ_mul];exact this
structure Pc (x y:Nat→Int) (C:Nat):Prop where
 le:∀i j,i<4→j<4→6* ((x i).natAbs* (y j).natAbs)≤C
 sm:∀z:Int,z.natAbs≤16* C+6→Sm z
 sx:∀i,i<4→Sm (x i)∧Sm (y i)
theorem IL (k i:Nat) (x y:Nat→Int) (xn yn:Int) {C:Nat} (h:Pc x y C) (hi:i<4) (hk:4<k):bg (aP MD t38 k 67 1) k (SJ x y (ey x y i) xn yn i 0 [])=some (.exit 2,SJ x y (ey x y (i+1)) xn yn i 4 [(20, .pv (bv false))]):=by
 refine bN (f:=aP MD t38 k 67 1) (S:=fun j=>SJ x y (kC x y (ey x y i) i j) xn yn i j []) (n:=4) (fun j hj=> ?_)
  (an (XZ k i 4 (decide (x i<0)) (ai (x i).natAbs) (c4 x++zc xn) (c4 y++zc yn) (zc 0++zc 0++zc 0++zc 0++zc 0) (c4 (kC x y (ey x y i) i 4)) (c4 x) (c4 y)) ⟨rfl,trivial⟩) (by simp) k hk
 have hc:=h.le i j hi hj
 have hb:=(De hi hj).2.2.2
 have h1:(x i* y j).natAbs≤C:=by rw [Int.natAbs_mul];omega
 have h2:((mm i j:Int)* (x i* y j)).natAbs≤C:=by
  rw [Int.natAbs_mul,Int.natAbs_mul,Int.natAbs_natCast]
  exact Nat.le_trans (Nat.mul_le_mul_right _ hb) hc
 have h3:=wK (B:=i* (4* C)) (C:=C) hi (wJ h.le i (by omega)) (fun j hj=>h.le i j hi hj) j (by omega) (i^^^j)
 have h4:i* (4* C)+j* C≤16* C:=by
  rcases vw hi with rfl|rfl|rfl|rfl<;>rcases vw hj with rfl|rfl|rfl|rfl<;>omega
 exact IN k i j x y _ xn yn hi hj (h.sx i hi).1 (h.sx j hj).2 (h.sm _ (by omega)) (h.sm _ (by omega)) (h.sm _ (by omega)) (fun n hn=>h.sm _ (by rw [Int.natAbs_natCast];omega))
def LV (x y f:Nat→Int) (xn yn:Int) (i:Nat) (e:List (Nat×AV)):St:=⟨(2, .bp 2 0)::(3, .bp 3 0)::(4, .bp 4 0)::(5, .bp 5 0)::(12, .pv (.ag (c4 x)))::(13, .pv (iv i))::e,[(2,c4 x++zc xn),(3,c4 y++zc yn),(4,zc 0++zc 0++zc 0++zc 0++zc 0),(5,c4 f)],[],[]⟩
theorem IM (k:Nat) (x y:Nat→Int) (xn yn:Int) {C:Nat} (h:Pc x y C) (hk:4<k):bg (aP MD t38 k 67 0) k (LV x y (fun _=>0) xn yn 0 [])=some (.exit 0,LV x y (ey x y 4) xn yn 4 [(14, .pv (bv false))]):=by
 refine bN (f:=aP MD t38 k 67 0) (S:=fun i=>LV x y (ey x y i) xn yn i []) (n:=4) (fun i hi=> ?_)
  (an (XV k 4 (c4 x++zc xn) (c4 y++zc yn) (zc 0++zc 0++zc 0++zc 0++zc 0) (c4 (ey x y 4)) (c4 x)) ⟨rfl,trivial⟩) (by simp) k hk
 have lp:=IL k i x y xn yn h hi hk
 exact an (XU k i (decide (x i<0)) (ai (x i).natAbs) (x 0) (x 1) (x 2) (x 3) xn (y 0) (y 1) (y 2) (y 3) yn (zc 0++zc 0++zc 0++zc 0++zc 0) (c4 (ey x y i)) (c4 (ey x y (i+1)))) ⟨decide_eq_true (by omega),⟨by omega,by omega⟩,QH hi,lp,aR (by omega) (by omega),trivial⟩
def ax.at (x:ax):Nat→Int:=fun k=>match k with
 |0=>x.a
 |1=>x.b
 |2=>x.c
 |_=>x.d
def ax.dR (x y:ax):ax:=⟨ey x.at y.at 4 0,ey x.at y.at 4 1,ey x.at y.at 4 2,ey x.at y.at 4 3,x.n* y.n⟩
theorem D2 (x y:ax) {C:Nat} (h:Pc x.at y.at C) (hx:Sm x.n) (hy:Sm y.n) (hn:Sm (x.n* y.n)) (h0:x.n* y.n≠0):az P0 67 [.ag x.cells, .ag y.cells] (one (.ag (x.dR y).low.cells)):=by
 have lp:=IM 5 x.at y.at x.n y.n h (by omega)
 have m:=eW hx hy
 have ha:∀k,Sm (ey x.at y.at 4 k):=fun k=>h.sm _ (by have:=wJ h.le 4 (Nat.le_refl _) k;omega)
 have l:=xd (x:=x.dR y) h0 ⟨⟨⟨ha 0,ha 1⟩,ha 2,ha 3⟩,hn⟩
 exact ah af OP (by rfl) (XR 5 x.a x.b x.c x.d x.n y.a y.b y.c y.d y.n (ey x.at y.at 4 0) (ey x.at y.at 4 1) (ey x.at y.at 4 2) (ey x.at y.at 4 3) (x.n* y.n) (x.dR y).low.a (x.dR y).low.b (x.dR y).low.c (x.dR y).low.d (x.dR y).low.n) ⟨lp,m,l,trivial⟩
end Go.Proofs.YtibbgjafjhcemaaDoor.Cul
namespace Go.Proofs.YtibbgjafjhcemaaDoor.Cul
open Go Go.RowKit
noncomputable def JH:List PV→Option RV:=bJ ax.small (fun x=>[.ag x.cells]) (fun x=>one (bv x.ok))
def ax.Fit (K:Nat) (x:ax):Prop:=((x.a.natAbs<256^K∧x.b.natAbs<256^K)∧(x.c.natAbs<256^K∧x.d.natAbs<256^K))∧x.n.natAbs<256^K
noncomputable def D1:List PV→Option RV:=bJ (fun p:ax×ax=>(∃K,K<2^20∧p.1.Fit K∧p.2.Fit K)∧p.1.n* p.2.n≠0) (fun p=>[.ag p.1.cells, .ag p.2.cells]) (fun p=>one (.ag (p.1.dR p.2).low.cells))
noncomputable def t39:Cl:=bI [(43,JH),(67,D1)]
theorem Xn (k:Nat) (g0 g1 g2 g3 gn h0 h1 h2 h3 hn l0 l1 l2 l3 ln:Bool) (s0 s1 s2 s3 sn t0 t1 t2 t3 tn u0 u1 u2 u3 un:ByteArray):ay MD t39 k 45 [.ag (ic g0 s0++ic g1 s1++ic g2 s2++ic g3 s3++ic gn sn), .ag (ic h0 t0++ic h1 t1++ic h2 t2++ic h3 t3++ic hn tn)] [.r (one (bv true)), .r (one (bv true)), .r (one (.ag (ic l0 u0++ic l1 u1++ic l2 u2++ic l3 u3++ic ln un)))]=
 some (RV.mk (PV.ag [PV.lit (Value.bool l0),PV.lit (Value.string u0),PV.lit (Value.bool l1),PV.lit (Value.string u1),PV.lit (Value.bool l2),PV.lit (Value.string u2),PV.lit (Value.bool l3),PV.lit (Value.string u3),PV.lit (Value.bool ln),PV.lit (Value.string un)]) none,[aa t39 43 [PV.ag [PV.lit (Value.bool g0),PV.lit (Value.string s0),PV.lit (Value.bool g1),PV.lit (Value.string s1),PV.lit (Value.bool g2),PV.lit (Value.string s2),PV.lit (Value.bool g3),PV.lit (Value.string s3),PV.lit (Value.bool gn),PV.lit (Value.string sn)]] (RV.mk (PV.lit (Value.bool true)) none),aa t39 43 [PV.ag [PV.lit (Value.bool h0),PV.lit (Value.string t0),PV.lit (Value.bool h1),PV.lit (Value.string t1),PV.lit (Value.bool h2),PV.lit (Value.string t2),PV.lit (Value.bool h3),PV.lit (Value.string t3),PV.lit (Value.bool hn),PV.lit (Value.string tn)]] (RV.mk (PV.lit (Value.bool true)) none),aa t39 67 [PV.ag [PV.lit (Value.bool g0),PV.lit (Value.string s0),PV.lit (Value.bool g1),PV.lit (Value.string s1),PV.lit (Value.bool g2),PV.lit (Value.string s2),PV.lit (Value.bool g3),PV.lit (Value.string s3),PV.lit (Value.bool gn),PV.lit (Value.string sn)],PV.ag [PV.lit (Value.bool h0),PV.lit (Value.string t0),PV.lit (Value.bool h1),PV.lit (Value.string t1),PV.lit (Value.bool h2),PV.lit (Value.string t2),PV.lit (Value.bool h3),PV.lit (Value.string t3),PV.lit (Value.bool hn),PV.lit (Value.string tn)]] (RV.mk (PV.ag [PV.lit (Value.bool l0),PV.lit (Value.string u0),PV.lit (Value.bool l1),PV.lit (Value.string u1),PV.lit (Value.bool l2),PV.lit (Value.string u2),PV.lit (Value.bool l3),PV.lit (Value.string u3),PV.lit (Value.bool ln),PV.lit (Value.string un)]) none)]):=by kernel_rfl
theorem ax.Fit.pc {K:Nat} {x y:ax} (hK:K<2^20) (hx:x.Fit K) (hy:y.Fit K):Pc x.at y.at (6* (256^K* 256^K)):=by
 have hp:1≤256^K:=Nat.one_le_pow _ _ (by decide)
 have fx:∀i,i<4→(x.at i).natAbs<256^K:=by
  intro i hi
  rcases vw hi with rfl|rfl|rfl|rfl
  · exact hx.1.1.1
  · exact hx.1.1.2
  · exact hx.1.2.1
  · exact hx.1.2.2
 have fy:∀i,i<4→(y.at i).natAbs<256^K:=by
  intro i hi
  rcases vw hi with rfl|rfl|rfl|rfl
  · exact hy.1.1.1
  · exact hy.1.1.2
  · exact hy.1.2.1
  · exact hy.1.2.2
 refine ⟨fun i j hi hj=>Nat.mul_le_mul_left _ (Nat.mul_le_mul (Nat.le_of_lt (fx i hi)) (Nat.le_of_lt (fy j hj))),fun z hz=> ?_,fun i hi=>⟨Sm.of_lt (fx i hi) (by omega),Sm.of_lt (fy i hi) (by omega)⟩⟩
 refine Sm.of_lt (k:=K+K+1) ?_ (by omega)
 rw [Nat.pow_succ,Nat.pow_add]
 have hq:1* 1≤256^K* 256^K:=Nat.mul_le_mul hp hp
 generalize 256^K* 256^K=Q at*
 omega
theorem ax.Fit.rY {K:Nat} {x:ax} (hK:K<2^28) (h:x.Fit K):x.BT:=
 ⟨⟨⟨Sm.of_lt h.1.1.1 hK,Sm.of_lt h.1.1.2 hK⟩,Sm.of_lt h.1.2.1 hK,Sm.of_lt h.1.2.2 hK⟩,Sm.of_lt h.2 hK⟩
theorem kg {K:Nat} {a b:Int} (hK:K<2^20) (ha:a.natAbs<256^K) (hb:b.natAbs<256^K):Sm (a* b):=
 Sm.of_lt (k:=K+K) (by rw [Int.natAbs_mul,Nat.pow_add];exact Nat.mul_lt_mul'' ha hb) (by omega)
theorem aX {x y:ax} (e:x.cells=y.cells):x=y:=by
 have hl:∀z:Int,(zc z).length=2:=fun _=>rfl
 unfold ax.cells at e
 obtain ⟨e,h⟩:=List.append_inj' e (by rw [hl,hl])
 exact Ah (by rw [e,h])
theorem oL {x:ax} (h:x.small):JH [.ag x.cells]=some (one (bv x.ok)):=
 aM (enc:=fun x:ax=>[.ag x.cells]) (fun a b e=>by
  simp only [List.cons.injEq,and_true,PV.ag.injEq] at e
  rw [aX e]) h
theorem kN {x y:ax} {K:Nat} (hK:K<2^20) (hx:x.Fit K) (hy:y.Fit K) (h0:x.n* y.n≠0):D1 [.ag x.cells, .ag y.cells]=some (one (.ag (x.dR y).low.cells)):=
 aM (a:=(x,y)) (enc:=fun p:ax×ax=>[.ag p.1.cells, .ag p.2.cells]) (fun a b e=>by
  simp only [List.cons.injEq,and_true,PV.ag.injEq] at e
  have:a=b:=Prod.ext (aX e.1) (aX e.2)
  rw [this]) ⟨⟨K,hK,hx,hy⟩,h0⟩
theorem CB (p:ax×ax) (h:(∃K,K<2^20∧p.1.Fit K∧p.2.Fit K)∧p.1.n* p.2.n≠0):az P0 67 [.ag p.1.cells, .ag p.2.cells] (one (.ag (p.1.dR p.2).low.cells)):=by
 obtain ⟨⟨K,hK,hx,hy⟩,h0⟩:=h
 exact D2 p.1 p.2 (ax.Fit.pc hK hx hy) (Sm.of_lt hx.2 (by omega)) (Sm.of_lt hy.2 (by omega)) (kg hK hx.2 hy.2) h0
theorem OQ:aI MD.P t39:=aH (aj (au fun x h=>nQ x h) (aj (au CB) aE))
theorem ax.rO {x:ax} (h:x.ok=true):0<x.n:=by
 unfold ax.ok at h
 simp only [Bool.and_eq_true,decide_eq_true_eq] at h
 exact h.1
theorem Cd (x y:ax) {K:Nat} (hK:K<2^20) (hx:x.Fit K) (hy:y.Fit K) (ox:x.ok=true) (oy:y.ok=true):az P0 45 [.ag x.cells, .ag y.cells] (one (.ag (x.dR y).low.cells)):=by
 have v1:=oL (hx.rY (by omega)).small
 have v2:=oL (hy.rY (by omega)).small
 rw [ox] at v1
 rw [oy] at v2
 have h0:x.n* y.n≠0:=by
  have:=Int.mul_pos (ax.rO ox) (ax.rO oy);omega
 have p:=kN hK hx hy h0
 obtain ⟨z,hz⟩:∃z,z=(x.dR y).low:=⟨_,rfl⟩
 rw [←hz] at p ⊢
 exact ah af OQ (by rfl) (Xn 1 (decide (x.a<0)) (decide (x.b<0)) (decide (x.c<0)) (decide (x.d<0)) (decide (x.n<0)) (decide (y.a<0)) (decide (y.b<0)) (decide (y.c<0)) (decide (y.d<0)) (decide (y.n<0)) (decide (z.a<0)) (decide (z.b<0)) (decide (z.c<0)) (decide (z.d<0)) (decide (z.n<0)) (ai x.a.natAbs) (ai x.b.natAbs) (ai x.c.natAbs) (ai x.d.natAbs) (ai x.n.natAbs) (ai y.a.natAbs) (ai y.b.natAbs) (ai y.c.natAbs) (ai y.d.natAbs) (ai y.n.natAbs) (ai z.a.natAbs) (ai z.b.natAbs) (ai z.c.natAbs) (ai z.d.natAbs) (ai z.n.natAbs)) ⟨v1,v2,p,trivial⟩
theorem mH {s z:Int} (h:s∣z) (h0:s≠0):(z / s).natAbs=z.natAbs / s.natAbs:=by
 obtain ⟨c,rfl⟩:=h
 rw [Int.mul_ediv_cancel_left _ h0,Int.natAbs_mul,Nat.mul_div_cancel_left _ (by omega)]
theorem ax.A7 (x:ax):x.sg.natAbs=x.gcd:=by
 unfold ax.sg
 split<;>simp
theorem ax.NL {x:ax} (h0:x.n≠0):x.low.ok=true:=by
 have hg:=ax.wW h0
 have hs:x.sg≠0:=by have:=x.A7;omega
 have hd:=x.rW
 have d:=x.gcd_dvd
 simp only [Int.ofNat_dvd_left] at d
 unfold ax.ok
 simp only [Bool.and_eq_true,decide_eq_true_eq]
 constructor
 · show 0<x.n / x.sg
   obtain ⟨c,hc⟩:=hd.2.2
   have e:x.n / x.sg=c:=by rw [hc,Int.mul_ediv_cancel_left _ hs]
   rw [e]
   have YB:(x.n<0∧x.sg<0)∨(0<x.n∧0<x.sg):=by
    unfold ax.sg
    split
    · left;constructor<;>omega
    · right;constructor<;>omega
   rcases Int.lt_trichotomy c 0 with h|h|h
   · rcases YB with ⟨h1,h2⟩|⟨h1,h2⟩
     · have:=Int.mul_pos_of_neg_of_neg h2 h;omega
     · have:=Int.mul_neg_of_pos_of_neg h2 h;omega
   · subst h;simp at hc;exact absurd hc h0
   · exact h
 · show Nat.gcd (Nat.gcd (Nat.gcd (Nat.gcd (x.n / x.sg).natAbs (x.a / x.sg).natAbs) (x.b / x.sg).natAbs) (x.c / x.sg).natAbs) (x.d / x.sg).natAbs=1
   rw [mH hd.2.2 hs,mH hd.1.1 hs,mH hd.1.2 hs,mH hd.2.1.1 hs,mH hd.2.1.2 hs,x.A7]
   rw [Nat.gcd_div d.2.2 d.1.1,Nat.gcd_div (Nat.dvd_gcd d.2.2 d.1.1) d.1.2,Nat.gcd_div (Nat.dvd_gcd (Nat.dvd_gcd d.2.2 d.1.1) d.1.2) d.2.1.1,Nat.gcd_div (Nat.dvd_gcd (Nat.dvd_gcd (Nat.dvd_gcd d.2.2 d.1.1) d.1.2) d.2.1.1) d.2.1.2]
   exact Nat.div_self hg
theorem ax.Fit.low {K:Nat} {x:ax} (h:x.Fit K) (h0:x.n≠0):x.low.Fit K:=by
 have hs:x.sg≠0:=by have:=x.A7;have:=ax.wW h0;omega
 have hd:=x.rW
 have q:∀z:Int,x.sg∣z→z.natAbs<256^K→(z / x.sg).natAbs<256^K:=fun z hz hl=>by
  rw [mH hz hs];exact Nat.lt_of_le_of_lt (Nat.div_le_self _ _) hl
 exact ⟨⟨⟨q _ hd.1.1 h.1.1.1,q _ hd.1.2 h.1.1.2⟩,q _ hd.2.1.1 h.1.2.1,q _ hd.2.1.2 h.1.2.2⟩,q _ hd.2.2 h.2⟩
end Go.Proofs.YtibbgjafjhcemaaDoor.Cul
namespace Go.Proofs.YtibbgjafjhcemaaDoor.Cul
open Go Go.RowKit
noncomputable def t26:Cl:=bI [(58,ff)]
def RI.ok (r:RI):Bool:=cF r.g r.s
def RI.sh (r:RI):Bool:=decide (r.s.size≤3)&&r.ok
def RI.z (r:RI):Int:=if r.g then -(bM r.s:Int) else (bM r.s:Int)
theorem Zz (k i j u b w1 w2:Nat) (g:Bool) (s:ByteArray) (xs zs os os':List PV):aA MD t26 k 56 1 ⟨[(1, .bp 1 0),(2, .bp 2 0),(4, .bp 4 0),(5, .pv (iv i)),(6, .bp 6 0),(7, .pv (iv j))],[(1,xs),(2,zs),(4,os),(6,[bv g,sv s])],[],[]⟩ [.c true, .j 39 i, .e 40 (iv u), .i 41 w1, .i 45 b, .i 46 b, .i 47 w2, .j 48 i, .s os', .i 36 (j+1:Nat)]=
 some ((Xt.normal,St.mk [(1,AV.bp 1 0),(2,AV.bp 2 0),(4,AV.bp 4 0),(5,AV.pv (iv (↑i:Int))),(6,AV.bp 6 0),(7,AV.pv (iv (↑(j+(1:Nat)):Int)))] [(1,xs),(2,zs),(4,os'),(6,[bv g,sv s])] [] []),[],[decide ((↑j:Int)<(↑s.size:Int))=true,aK (↑i:Int) 5 i,Ld MD.P 3 os (0+i* 1) (iv (↑u:Int)),IntKind.i64.wrap ((↑u:Int)* (2:Int)^min (Int.toNat (8:Int)) IntKind.i64.bits)=(↑w1:Int),false=false,eE s (↑j:Int) (↑b:Int),IntKind.i64.wrap (↑b:Int)=(↑b:Int),IntKind.i64.wrap ((↑w1:Int)+(↑b:Int))=(↑w2:Int),aK (↑i:Int) 5 i,0+i* 1+1≤os.length,cg os (0+i* 1) [iv (↑w2:Int)] os',IntKind.i64.wrap ((↑j:Int)+(1:Int))=(↑(j+(1:Nat)):Int)]):=by kernel_rfl
theorem ZA (k i j:Nat) (g:Bool) (s:ByteArray) (xs zs os:List PV):aA MD t26 k 56 1 ⟨[(1, .bp 1 0),(2, .bp 2 0),(4, .bp 4 0),(5, .pv (iv i)),(6, .bp 6 0),(7, .pv (iv j))],[(1,xs),(2,zs),(4,os),(6,[bv g,sv s])],[],[]⟩ [.c false]=
 some ((Xt.exit 2,St.mk [(1,AV.bp 1 0),(2,AV.bp 2 0),(4,AV.bp 4 0),(5,AV.pv (iv (↑i:Int))),(6,AV.bp 6 0),(7,AV.pv (iv (↑j:Int))),(34,AV.pv (bv false))] [(1,xs),(2,zs),(4,os),(6,[bv g,sv s])] [] []),[],[decide ((↑j:Int)<(↑s.size:Int))=false]):=by kernel_rfl
theorem Zn (k i:Nat) (g gd:Bool) (s sd:ByteArray) (l0 l1 l2 l3 l4:Int) (xs:List PV):aA MD t26 k 56 0 ⟨[(1, .bp 1 0),(2, .bp 2 0),(4, .bp 4 0),(5, .pv (iv i))],[(1,xs),(2,[iv 0,iv 0,iv 0,iv 0,iv 0]),(4,[iv l0,iv l1,iv l2,iv l3,iv l4])],[],[]⟩ [.c true, .e 13 (iz gd sd), .c true, .j 18 i, .e 19 (iz g s), .c true]=
 some ((Xt.ret,St.mk [(2,AV.bp 2 0),(3,AV.pv (bv false))] [(2,[iv l0,iv l1,iv l2,iv l3,iv l4])] [] []),[],[decide ((↑i:Int)<(5:Int))=true,Ld MD.P 27 xs 8 (PV.ag [bv gd,sv sd]),decide ((↑i:Int)<(4:Int))=true,aK (↑i:Int) 4 i,Ld MD.P 27 xs (0+i* 2) (PV.ag [bv g,sv s]),decide ((↑s.size:Int)>(3:Int))=true]):=by kernel_rfl
theorem Zo (k i:Nat) (g gd:Bool) (s sd:ByteArray) (l0 l1 l2 l3 l4:Int) (xs:List PV):aA MD t26 k 56 0 ⟨[(1, .bp 1 0),(2, .bp 2 0),(4, .bp 4 0),(5, .pv (iv i))],[(1,xs),(2,[iv 0,iv 0,iv 0,iv 0,iv 0]),(4,[iv l0,iv l1,iv l2,iv l3,iv l4])],[],[]⟩ [.c true, .e 13 (iz gd sd), .c true, .j 18 i, .e 19 (iz g s), .c false, .r (one (bv false))]=
 some ((Xt.ret,St.mk [(2,AV.bp 2 0),(3,AV.pv (bv false))] [(2,[iv l0,iv l1,iv l2,iv l3,iv l4])] [] []),[],[decide ((↑i:Int)<(5:Int))=true,Ld MD.P 27 xs 8 (PV.ag [bv gd,sv sd]),decide ((↑i:Int)<(4:Int))=true,aK (↑i:Int) 4 i,Ld MD.P 27 xs (0+i* 2) (PV.ag [bv g,sv s]),decide ((↑s.size:Int)>(3:Int))=false,aa t26 58 [PV.ag [bv g,sv s]] (RV.mk (bv false) none)]):=by kernel_rfl
theorem Zp (k i:Nat) (gd:Bool) (s sd:ByteArray) (xs zs os os':List PV):aA MD t26 k 56 0 ⟨[(1, .bp 1 0),(2, .bp 2 0),(4, .bp 4 0),(5, .pv (iv i))],[(1,xs),(2,zs),(4,os)],[],[]⟩ [.c true, .e 13 (iz gd sd), .c true, .j 18 i, .e 19 (iz false s), .c false, .r (one (bv true)), .l (.exit 2) ⟨[(1, .bp 1 0),(2, .bp 2 0),(4, .bp 4 0),(5, .pv (iv i)),(6, .bp 6 0),(7, .pv (iv s.size)),(34, .pv (bv false))],[(1,xs),(2,zs),(4,os'),(6,[bv false,sv s])],[],[]⟩, .i 11 (i+1:Nat)]=
 some ((Xt.normal,St.mk [(1,AV.bp 1 0),(2,AV.bp 2 0),(4,AV.bp 4 0),(5,AV.pv (iv (↑(i+(1:Nat)):Int)))] [(1,xs),(2,zs),(4,os')] [] []),[],[decide ((↑i:Int)<(5:Int))=true,Ld MD.P 27 xs 8 (PV.ag [bv gd,sv sd]),decide ((↑i:Int)<(4:Int))=true,aK (↑i:Int) 4 i,Ld MD.P 27 xs (0+i* 2) (PV.ag [bv false,sv s]),decide ((↑s.size:Int)>(3:Int))=false,aa t26 58 [PV.ag [bv false,sv s]] (RV.mk (bv true) none),aW MD t26 k (56:Nat) (1:Nat) (St.mk [(1,AV.bp 1 0),(2,AV.bp 2 0),(4,AV.bp 4 0),(5,AV.pv (iv (↑i:Int))),(6,AV.bp 6 0),(7,AV.pv (iv (0:Int)))] [(1,xs),(2,zs),(4,os),(6,[bv false,sv s])] [] []) (Xt.exit 2) (St.mk [(1,AV.bp 1 0),(2,AV.bp 2 0),(4,AV.bp 4 0),(5,AV.pv (iv (↑i:Int))),(6,AV.bp 6 0),(7,AV.pv (iv (↑s.size:Int))),(34,AV.pv (bv false))] [(1,xs),(2,zs),(4,os'),(6,[bv false,sv s])] [] []),IntKind.i64.wrap ((↑i:Int)+(1:Int))=(↑(i+(1:Nat)):Int)]):=by kernel_rfl
theorem Zq (k i:Nat) (u w:Int) (gd:Bool) (s sd:ByteArray) (xs zs os os' AE:List PV):aA MD t26 k 56 0 ⟨[(1, .bp 1 0),(2, .bp 2 0),(4, .bp 4 0),(5, .pv (iv i))],[(1,xs),(2,zs),(4,os)],[],[]⟩ [.c true, .e 13 (iz gd sd), .c true, .j 18 i, .e 19 (iz true s), .c false, .r (one (bv true)), .l (.exit 2) ⟨[(1, .bp 1 0),(2, .bp 2 0),(4, .bp 4 0),(5, .pv (iv i)),(6, .bp 6 0),(7, .pv (iv s.size)),(34, .pv (bv false))],[(1,xs),(2,zs),(4,os'),(6,[bv true,sv s])],[],[]⟩, .j 53 i, .e 54 (iv u), .i 55 w, .j 56 i, .s AE, .i 11 (i+1:Nat)]=
 some ((Xt.normal,St.mk [(1,AV.bp 1 0),(2,AV.bp 2 0),(4,AV.bp 4 0),(5,AV.pv (iv (↑(i+(1:Nat)):Int)))] [(1,xs),(2,zs),(4,AE)] [] []),[],[decide ((↑i:Int)<(5:Int))=true,Ld MD.P 27 xs 8 (PV.ag [bv gd,sv sd]),decide ((↑i:Int)<(4:Int))=true,aK (↑i:Int) 4 i,Ld MD.P 27 xs (0+i* 2) (PV.ag [bv true,sv s]),decide ((↑s.size:Int)>(3:Int))=false,aa t26 58 [PV.ag [bv true,sv s]] (RV.mk (bv true) none),aW MD t26 k (56:Nat) (1:Nat) (St.mk [(1,AV.bp 1 0),(2,AV.bp 2 0),(4,AV.bp 4 0),(5,AV.pv (iv (↑i:Int))),(6,AV.bp 6 0),(7,AV.pv (iv (0:Int)))] [(1,xs),(2,zs),(4,os),(6,[bv true,sv s])] [] []) (Xt.exit 2) (St.mk [(1,AV.bp 1 0),(2,AV.bp 2 0),(4,AV.bp 4 0),(5,AV.pv (iv (↑i:Int))),(6,AV.bp 6 0),(7,AV.pv (iv (↑s.size:Int))),(34,AV.pv (bv false))] [(1,xs),(2,zs),(4,os'),(6,[bv true,sv s])] [] []),aK (↑i:Int) 5 i,Ld MD.P 3 os' (0+i* 1) (iv u),IntKind.i64.wrap ((0:Int) - u)=w,aK (↑i:Int) 5 i,0+i* 1+1≤os'.length,cg os' (0+i* 1) [iv w] AE,IntKind.i64.wrap ((↑i:Int)+(1:Int))=(↑(i+(1:Nat)):Int)]):=by kernel_rfl
theorem Zr (k:Nat) (gd:Bool) (sd:ByteArray) (l0 l1 l2 l3 l4:Int) (xs:List PV):aA MD t26 k 56 0 ⟨[(1, .bp 1 0),(2, .bp 2 0),(4, .bp 4 0),(5, .pv (iv 4))],[(1,xs),(2,[iv 0,iv 0,iv 0,iv 0,iv 0]),(4,[iv l0,iv l1,iv l2,iv l3,iv l4])],[],[]⟩ [.c true, .e 13 (iz gd sd), .c false, .c true]=
 some ((Xt.ret,St.mk [(2,AV.bp 2 0),(3,AV.pv (bv false))] [(2,[iv l0,iv l1,iv l2,iv l3,iv l4])] [] []),[],[true=true,Ld MD.P 27 xs 8 (PV.ag [bv gd,sv sd]),false=false,decide ((↑sd.size:Int)>(3:Int))=true]):=by kernel_rfl
theorem Zs (k:Nat) (gd:Bool) (sd:ByteArray) (l0 l1 l2 l3 l4:Int) (xs:List PV):aA MD t26 k 56 0 ⟨[(1, .bp 1 0),(2, .bp 2 0),(4, .bp 4 0),(5, .pv (iv 4))],[(1,xs),(2,[iv 0,iv 0,iv 0,iv 0,iv 0]),(4,[iv l0,iv l1,iv l2,iv l3,iv l4])],[],[]⟩ [.c true, .e 13 (iz gd sd), .c false, .c false, .r (one (bv false))]=
 some ((Xt.ret,St.mk [(2,AV.bp 2 0),(3,AV.pv (bv false))] [(2,[iv l0,iv l1,iv l2,iv l3,iv l4])] [] []),[],[true=true,Ld MD.P 27 xs 8 (PV.ag [bv gd,sv sd]),false=false,decide ((↑sd.size:Int)>(3:Int))=false,aa t26 58 [PV.ag [bv gd,sv sd]] (RV.mk (bv false) none)]):=by kernel_rfl
theorem Zt (k i:Nat) (sd:ByteArray) (xs zs os os':List PV):aA MD t26 k 56 0 ⟨[(1, .bp 1 0),(2, .bp 2 0),(4, .bp 4 0),(5, .pv (iv i))],[(1,xs),(2,zs),(4,os)],[],[]⟩ [.c true, .e 13 (iz false sd), .c false, .c false, .r (one (bv true)), .l (.exit 2) ⟨[(1, .bp 1 0),(2, .bp 2 0),(4, .bp 4 0),(5, .pv (iv i)),(6, .bp 6 0),(7, .pv (iv sd.size)),(34, .pv (bv false))],[(1,xs),(2,zs),(4,os'),(6,[bv false,sv sd])],[],[]⟩, .i 11 (i+1:Nat)]=
 some ((Xt.normal,St.mk [(1,AV.bp 1 0),(2,AV.bp 2 0),(4,AV.bp 4 0),(5,AV.pv (iv (↑(i+(1:Nat)):Int)))] [(1,xs),(2,zs),(4,os')] [] []),[],[decide ((↑i:Int)<(5:Int))=true,Ld MD.P 27 xs 8 (PV.ag [bv false,sv sd]),decide ((↑i:Int)<(4:Int))=false,decide ((↑sd.size:Int)>(3:Int))=false,aa t26 58 [PV.ag [bv false,sv sd]] (RV.mk (bv true) none),aW MD t26 k (56:Nat) (1:Nat) (St.mk [(1,AV.bp 1 0),(2,AV.bp 2 0),(4,AV.bp 4 0),(5,AV.pv (iv (↑i:Int))),(6,AV.bp 6 0),(7,AV.pv (iv (0:Int)))] [(1,xs),(2,zs),(4,os),(6,[bv false,sv sd])] [] []) (Xt.exit 2) (St.mk [(1,AV.bp 1 0),(2,AV.bp 2 0),(4,AV.bp 4 0),(5,AV.pv (iv (↑i:Int))),(6,AV.bp 6 0),(7,AV.pv (iv (↑sd.size:Int))),(34,AV.pv (bv false))] [(1,xs),(2,zs),(4,os'),(6,[bv false,sv sd])] [] []),IntKind.i64.wrap ((↑i:Int)+(1:Int))=(↑(i+(1:Nat)):Int)]):=by kernel_rfl
theorem Zu (k i:Nat) (u w:Int) (sd:ByteArray) (xs zs os os' AE:List PV):aA MD t26 k 56 0 ⟨[(1, .bp 1 0),(2, .bp 2 0),(4, .bp 4 0),(5, .pv (iv i))],[(1,xs),(2,zs),(4,os)],[],[]⟩ [.c true, .e 13 (iz true sd), .c false, .c false, .r (one (bv true)), .l (.exit 2) ⟨[(1, .bp 1 0),(2, .bp 2 0),(4, .bp 4 0),(5, .pv (iv i)),(6, .bp 6 0),(7, .pv (iv sd.size)),(34, .pv (bv false))],[(1,xs),(2,zs),(4,os'),(6,[bv true,sv sd])],[],[]⟩, .j 53 i, .e 54 (iv u), .i 55 w, .j 56 i, .s AE, .i 11 (i+1:Nat)]=
 some ((Xt.normal,St.mk [(1,AV.bp 1 0),(2,AV.bp 2 0),(4,AV.bp 4 0),(5,AV.pv (iv (↑(i+(1:Nat)):Int)))] [(1,xs),(2,zs),(4,AE)] [] []),[],[decide ((↑i:Int)<(5:Int))=true,Ld MD.P 27 xs 8 (PV.ag [bv true,sv sd]),decide ((↑i:Int)<(4:Int))=false,decide ((↑sd.size:Int)>(3:Int))=false,aa t26 58 [PV.ag [bv true,sv sd]] (RV.mk (bv true) none),aW MD t26 k (56:Nat) (1:Nat) (St.mk [(1,AV.bp 1 0),(2,AV.bp 2 0),(4,AV.bp 4 0),(5,AV.pv (iv (↑i:Int))),(6,AV.bp 6 0),(7,AV.pv (iv (0:Int)))] [(1,xs),(2,zs),(4,os),(6,[bv true,sv sd])] [] []) (Xt.exit 2) (St.mk [(1,AV.bp 1 0),(2,AV.bp 2 0),(4,AV.bp 4 0),(5,AV.pv (iv (↑i:Int))),(6,AV.bp 6 0),(7,AV.pv (iv (↑sd.size:Int))),(34,AV.pv (bv false))] [(1,xs),(2,zs),(4,os'),(6,[bv true,sv sd])] [] []),aK (↑i:Int) 5 i,Ld MD.P 3 os' (0+i* 1) (iv u),IntKind.i64.wrap ((0:Int) - u)=w,aK (↑i:Int) 5 i,0+i* 1+1≤os'.length,cg os' (0+i* 1) [iv w] AE,IntKind.i64.wrap ((↑i:Int)+(1:Int))=(↑(i+(1:Nat)):Int)]):=by kernel_rfl
theorem Zv (k:Nat) (xs zs os:List PV):aA MD t26 k 56 0 ⟨[(1, .bp 1 0),(2, .bp 2 0),(4, .bp 4 0),(5, .pv (iv 5))],[(1,xs),(2,zs),(4,os)],[],[]⟩ [.c false]=
 some ((Xt.exit 0,St.mk [(1,AV.bp 1 0),(2,AV.bp 2 0),(4,AV.bp 4 0),(5,AV.pv (iv (5:Int))),(9,AV.pv (bv false))] [(1,xs),(2,zs),(4,os)] [] []),[],[false=false]):=by kernel_rfl
theorem Zx (k:Nat) (x:aq) (l0 l1 l2 l3 l4:Int):ay MD t26 k 56 [.ag x.cells] [.l .ret ⟨[(2, .bp 2 0),(3, .pv (bv false))],[(2,[iv l0,iv l1,iv l2,iv l3,iv l4])],[],[]⟩]=
 some (RV.mk (PV.aG [PV.ag [iv l0,iv l1,iv l2,iv l3,iv l4],bv false]) none,[aW MD t26 k (56:Nat) (0:Nat) (St.mk [(1,AV.bp 1 0),(2,AV.bp 2 0),(4,AV.bp 4 0),(5,AV.pv (iv (0:Int)))] [(1,x.cells),(2,[iv (0:Int),iv (0:Int),iv (0:Int),iv (0:Int),iv (0:Int)]),(4,[iv (0:Int),iv (0:Int),iv (0:Int),iv (0:Int),iv (0:Int)])] [] []) Xt.ret (St.mk [(2,AV.bp 2 0),(3,AV.pv (bv false))] [(2,[iv l0,iv l1,iv l2,iv l3,iv l4])] [] [])]):=by kernel_rfl
theorem Zy (k:Nat) (x:aq) (l0 l1 l2 l3 l4:Int):ay MD t26 k 56 [.ag x.cells] [.l (.exit 0) ⟨[(1, .bp 1 0),(2, .bp 2 0),(4, .bp 4 0),(5, .pv (iv 5)),(9, .pv (bv false))],[(1,x.cells),(2,[iv 0,iv 0,iv 0,iv 0,iv 0]),(4,[iv l0,iv l1,iv l2,iv l3,iv l4])],[],[]⟩]=
 some (RV.mk (PV.aG [PV.ag [iv l0,iv l1,iv l2,iv l3,iv l4],bv true]) none,[aW MD t26 k (56:Nat) (0:Nat) (St.mk [(1,AV.bp 1 0),(2,AV.bp 2 0),(4,AV.bp 4 0),(5,AV.pv (iv (0:Int)))] [(1,x.cells),(2,[iv (0:Int),iv (0:Int),iv (0:Int),iv (0:Int),iv (0:Int)]),(4,[iv (0:Int),iv (0:Int),iv (0:Int),iv (0:Int),iv (0:Int)])] [] []) (Xt.exit 0) (St.mk [(1,AV.bp 1 0),(2,AV.bp 2 0),(4,AV.bp 4 0),(5,AV.pv (iv (5:Int))),(9,AV.pv (bv false))] [(1,x.cells),(2,[iv (0:Int),iv (0:Int),iv (0:Int),iv (0:Int),iv (0:Int)]),(4,[iv l0,iv l1,iv l2,iv l3,iv l4])] [] [])]):=by kernel_rfl
theorem Vt (k i:Nat) (a b:Int) (xs:List PV):aA MD t26 k 57 1 ⟨[(1, .bp 1 0),(4, .pv (iv i)),(5, .pv (iv a)),(6, .pv (iv b))],[(1,xs)],[],[]⟩ [.c false]=
 some ((Xt.exit 2,St.mk [(1,AV.bp 1 0),(4,AV.pv (iv (↑i:Int))),(5,AV.pv (iv a)),(6,AV.pv (iv b)),(21,AV.pv (bv false))] [(1,xs)] [] []),[],[(b !=(0:Int))=false]):=by kernel_rfl
theorem Vu (k i:Nat) (a b r:Int) (xs:List PV):aA MD t26 k 57 1 ⟨[(1, .bp 1 0),(4, .pv (iv i)),(5, .pv (iv a)),(6, .pv (iv b))],[(1,xs)],[],[]⟩ [.c true, .i 25 r]=
 some ((Xt.normal,St.mk [(1,AV.bp 1 0),(4,AV.pv (iv (↑i:Int))),(5,AV.pv (iv b)),(6,AV.pv (iv r))] [(1,xs)] [] []),[],[(b !=(0:Int))=true,a.tmod b=r,decide (b=(0:Int))=false]):=by kernel_rfl
theorem Vv (k:Nat) (g i:Nat) (u n m r:Int) (xs:List PV):aA MD t26 k 57 0 ⟨[(1, .bp 1 0),(3, .pv (iv g)),(4, .pv (iv i))],[(1,xs)],[],[]⟩ [.c true, .j 13 i, .e 14 (iv u), .j 16 i, .e 17 (iv u), .i 18 n, .i 19 m, .l (.exit 2) ⟨[(1, .bp 1 0),(4, .pv (iv i)),(5, .pv (iv r)),(6, .pv (iv 0)),(21, .pv (bv false))],[(1,xs)],[],[]⟩, .i 10 (i+1:Nat)]=
 some ((Xt.normal,St.mk [(1,AV.bp 1 0),(3,AV.pv (iv r)),(4,AV.pv (iv (↑(i+(1:Nat)):Int)))] [(1,xs)] [] []),[],[decide ((↑i:Int)<(5:Int))=true,aK (↑i:Int) 5 i,Ld MD.P 3 xs (0+i* 1) (iv u),aK (↑i:Int) 5 i,Ld MD.P 3 xs (0+i* 1) (iv u),IntKind.i64.wrap ((0:Int) - u)=n,(if n>u then n else u)=m,aW MD t26 k (57:Nat) (1:Nat) (St.mk [(1,AV.bp 1 0),(4,AV.pv (iv (↑i:Int))),(5,AV.pv (iv (↑g:Int))),(6,AV.pv (iv m))] [(1,xs)] [] []) (Xt.exit 2) (St.mk [(1,AV.bp 1 0),(4,AV.pv (iv (↑i:Int))),(5,AV.pv (iv r)),(6,AV.pv (iv (0:Int))),(21,AV.pv (bv false))] [(1,xs)] [] []),IntKind.i64.wrap ((↑i:Int)+(1:Int))=(↑(i+(1:Nat)):Int)]):=by kernel_rfl
theorem Vw (k:Nat) (g:Int) (xs:List PV):aA MD t26 k 57 0 ⟨[(1, .bp 1 0),(3, .pv (iv g)),(4, .pv (iv 5))],[(1,xs)],[],[]⟩ [.c false]=
 some ((Xt.exit 0,St.mk [(1,AV.bp 1 0),(3,AV.pv (iv g)),(4,AV.pv (iv (5:Int))),(8,AV.pv (bv false))] [(1,xs)] [] []),[],[false=false]):=by kernel_rfl
theorem Vx (k:Nat) (l0 l1 l2 l3 l4 g:Int):ay MD t26 k 57 [.ag [iv l0,iv l1,iv l2,iv l3,iv l4]] [.l (.exit 0) ⟨[(1, .bp 1 0),(3, .pv (iv g)),(4, .pv (iv 5)),(8, .pv (bv false))],[(1,[iv l0,iv l1,iv l2,iv l3,iv l4])],[],[]⟩]=
 some (RV.mk (iv g) none,[aW MD t26 k (57:Nat) (0:Nat) (St.mk [(1,AV.bp 1 0),(3,AV.pv (iv (0:Int))),(4,AV.pv (iv (0:Int)))] [(1,[iv l0,iv l1,iv l2,iv l3,iv l4])] [] []) (Xt.exit 0) (St.mk [(1,AV.bp 1 0),(3,AV.pv (iv g)),(4,AV.pv (iv (5:Int))),(8,AV.pv (bv false))] [(1,[iv l0,iv l1,iv l2,iv l3,iv l4])] [] [])]):=by kernel_rfl
theorem RZ {α:Type} {c:α→PV} {P:Program} {T:TypeId} (hs:bV P T=some 1) (hr:ei P T=false) (hu:(P.underlying T).isSome=true) {l:List α} {o i:Nat} {x:α} (h:l[i]? =some x) (ho:o=i):Ld P T (l.map c) o (c x):=by
 subst ho
 have:=gB h
 show eA P T (l.map c) o=some (c x)
 simp only [eA,hs,Option.bind_some,hr,hu]
 rw [if_pos (by rw [List.length_map];omega)]
 simp [h]
theorem Kx {α:Type} {c:α→PV} {l m:List α} {o i:Nat} {y:α} (h:l.set i y=m) (hi:i<l.length) (ho:o=i):cg (l.map c) o [c y] (m.map c):=by
 subst ho h
 show splice (l.map c) o [c y]=(l.set o y).map c
 simp only [splice,List.map_set,List.length_singleton]
 rw [List.set_eq_take_append_cons_drop,if_pos (by simpa using hi),List.append_assoc];rfl
theorem vm {l:List Int} {o i:Nat} {x:Int} (h:l[i]? =some x) (ho:o=i):Ld MD.P 3 (l.map iv) o (iv x):=RZ Ku Ou O1 h ho
theorem Ji {α:Type} {l:List α} {i:Nat} {x:α} (h:l[i]? =some x):l.set i x=l:=by
 apply List.ext_getElem?
 intro j
 by_cases e:i=j
 · subst e;rw [List.getElem?_set_self (gB h),h]
 · rw [List.getElem?_set_ne e]
theorem Bh:aI MD.P t26:=aH (aj (au fun x _=>jX x.1 x.2) aE)
def WI (i j:Nat) (g:Bool) (s:ByteArray) (xs zs os:List PV) (e:List (Nat×AV)):St:=⟨(1, .bp 1 0)::(2, .bp 2 0)::(4, .bp 4 0)::(5, .pv (iv i))::(6, .bp 6 0)::(7, .pv (iv j))::e,[(1,xs),(2,zs),(4,os),(6,[bv g,sv s])],[],[]⟩
theorem LO (k i:Nat) (g:Bool) (s:ByteArray) (xs zs:List PV) (l:List Int) (hl:l.length=5) (hi:i<5) (h0:l[i]? =some 0) (hs:s.size≤3) (hk:5≤k):
  bg (aP MD t26 k 56 1) k (WI i 0 g s xs zs (l.map iv) [])=some (.exit 2,WI i s.size g s xs zs ((l.set i (bM s:Nat)).map iv) [(34, .pv (bv false))]):=by
 have e0:l.set i ((val 256 ((aT s).drop (s.size - 0)):Nat):Int)=l:=by
  have:val 256 ((aT s).drop (s.size - 0))=0:=by
   rw [Nat.sub_zero,List.drop_of_length_le (by rw [bO];omega)];rfl
  rw [this];exact Ji h0
 have e1:bM s=val 256 ((aT s).drop (s.size - s.size)):=by rw [Nat.sub_self,List.drop_zero];rfl
 have lp:=bN (f:=aP MD t26 k 56 1) (S:=fun j=>WI i j g s xs zs ((l.set i ((val 256 ((aT s).drop (s.size - j)):Nat):Int)).map iv) []) (n:=s.size) (fun j hj=> ?_) (an (ZA k i s.size g s xs zs _) ⟨decide_eq_false (by omega),trivial⟩) (by simp) k (by omega)
 · simp only [e0] at lp
   rw [e1];exact lp
 · obtain ⟨b,hb,ck⟩:=lY (s:=s) (i:=s.size - 1 - j) (by omega)
   have nR:b<256:=ec s b (List.mem_of_getElem? hb)
   rw [show s.size - 1 - (s.size - 1 - j)=j by omega] at ck
   have hd:=tX (b:=256) hb
   rw [show s.size - 1 - j+1=s.size - j by omega,show s.size - 1 - j=s.size - (j+1) by omega] at hd
   have hlt:=cY (jE (ec s) (s.size - (j+1)))
   rw [List.length_drop,bO] at hlt
   have h7:256^(s.size - (s.size - (j+1)))≤256^3:=Nat.pow_le_pow_right (by decide) (by omega)
   have Aa:eE s (j:Int) (b:Int):=by
    show jg s _=_
    unfold jg
    rw [if_pos (by omega),Int.toNat_natCast]
    cases h:s[j]? with
    |none=>rw [h] at ck;simp at ck
    |some c=>rw [h] at ck;simp at ck;simp [ck]
   generalize hu:val 256 ((aT s).drop (s.size - j))=u at*
   generalize ji:val 256 ((aT s).drop (s.size - (j+1)))=u2 at*
   have hp:(2:Int)^min (Int.toNat 8) IntKind.i64.bits=256:=by decide
   have hg:(l.set i (u:Int))[i]? =some (u:Int):=List.getElem?_set_self (by omega)
   have hsp:cg ((l.set i (u:Int)).map iv) (0+i* 1) [iv (u2:Nat)] ((l.set i (u2:Int)).map iv):=Kx (by rw [List.set_set]) (by rw [List.length_set];omega) (by omega)
   exact an (Zz k i j u b (u* 256) u2 g s xs zs _ _) ⟨decide_eq_true (by omega),⟨rfl,hi⟩,vm hg (by omega),by rw [hp];exact aR (by omega) (by omega),rfl,Aa,aR rfl (by omega),aR (by omega) (by omega),⟨rfl,hi⟩,by rw [List.length_map,List.length_set];omega,hsp,aR (by omega) (by omega),trivial⟩
def aq.dm (x:aq):List RI:=[x.c0,x.c1,x.c2,x.c3,x.d]
theorem aq.JX (x:aq) {i:Nat} {r:RI} (hi:i<4) (h:x.dm[i]? =some r):Ld MD.P 27 x.cells (0+i* 2) (.ag r.cells):=by
 match i,hi with
 |0,_=>have e:x.c0=r:=Option.some.inj h;subst e;show eA _ _ _ _=_;kernel_rfl
 |1,_=>have e:x.c1=r:=Option.some.inj h;subst e;show eA _ _ _ _=_;kernel_rfl
 |2,_=>have e:x.c2=r:=Option.some.inj h;subst e;show eA _ _ _ _=_;kernel_rfl
 |3,_=>have e:x.c3=r:=Option.some.inj h;subst e;show eA _ _ _ _=_;kernel_rfl
theorem aq.QG (x:aq):Ld MD.P 27 x.cells 8 (.ag x.d.cells):=by show eA _ _ _ _=_;kernel_rfl
def gR (rl:List RI) (i:Nat):List Int:=(rl.take i).map RI.z++List.replicate (5 - i) 0
theorem sH {rl:List RI} (h:rl.length=5) {i:Nat} (hi:i≤5):(gR rl i).length=5:=by simp [gR];omega
theorem Li {rl:List RI} (h:rl.length=5) {i:Nat} (hi:i<5):(gR rl i)[i]? =some 0:=by
 unfold gR
 have e:((rl.take i).map RI.z).length=i:=by simp;omega
 rw [List.getElem?_append_right (by omega),List.getElem?_replicate,if_pos (by omega)]
theorem Lj {rl:List RI} (h:rl.length=5) {i:Nat} {r:RI} (hr:rl[i]? =some r):(gR rl i).set i r.z=gR rl (i+1):=by
 have hi:=gB hr
 unfold gR
 rw [List.set_append_right _ _ (by simp;omega)]
 obtain ⟨m,hm⟩:∃m,5 - i=m+1:=⟨4 - i,by omega⟩
 have e:i - ((rl.take i).map RI.z).length=0:=by simp;omega
 rw [e,hm,List.replicate_succ,List.set_cons_zero,show 5 - (i+1)=m by omega,List.take_add_one,hr]
 simp
def WO (x:aq) (i:Nat) (l:List Int) (e:List (Nat×AV)):St:=⟨(1, .bp 1 0)::(2, .bp 2 0)::(4, .bp 4 0)::(5, .pv (iv i))::e,[(1,x.cells),(2,[iv 0,iv 0,iv 0,iv 0,iv 0]),(4,l.map iv)],[],[]⟩
theorem vn {α:Type} {l:List α} (h:l.length=5):∃a b c d e,l=[a,b,c,d,e]:=by
 match l,h with
 |[a,b,c,d,e],_=>exact ⟨a,b,c,d,e,rfl⟩
theorem RI.xu {r:RI} (h:r.sh=true):r.s.size≤3∧r.ok=true:=by
 unfold RI.sh at h
 simpa using h
theorem RI.C3 {r:RI} (h:r.s.size≤3):bM r.s<2^24:=by
 have:=cY (ec r.s)
 rw [bO] at this
 have h7:256^r.s.size≤256^3:=Nat.pow_le_pow_right (by decide) h
 unfold bM;omega
theorem O8 (k:Nat) (x:aq) {i:Nat} {r:RI} (hi:i<5) (hr:x.dm[i]? =some r) (h:r.sh=true) (hk:5≤k):aP MD t26 k 56 0 (WO x i (gR x.dm i) [])=some (.normal,WO x (i+1) (gR x.dm (i+1)) []):=by
 obtain ⟨h1,h2⟩:=RI.xu h
 have hz:=RI.C3 h1
 have hl:=sH (rl:=x.dm) rfl (i:=i) (by omega)
 have fJ:=Lj (rl:=x.dm) rfl hr
 have hv:=cD r.g r.s
 rw [show cF r.g r.s=true from h2] at hv
 have lp:=LO k i r.g r.s x.cells [iv 0,iv 0,iv 0,iv 0,iv 0] (gR x.dm i) hl hi (Li rfl hi) h1 hk
 have hgd:Ld MD.P 27 x.cells 8 (iz x.d.g x.d.s):=x.QG
 generalize hL:gR x.dm i=L at*
 obtain ⟨g,s⟩:=r
 cases g with
 |false=>
  have ez:RI.z ⟨false,s⟩=(bM s:Nat):=rfl
  rw [ez] at fJ
  rw [fJ] at lp
  by_cases h4:i<4
  · exact an (Zp k i x.d.g s x.d.s _ _ _ _) ⟨decide_eq_true (by omega),hgd,decide_eq_true (by omega),⟨rfl,h4⟩,x.JX h4 hr,decide_eq_false (by simp at h1;omega),hv,lp,aR (by omega) (by omega),trivial⟩
  · have hi4:i=4:=by omega
    have ed:x.d=⟨false,s⟩:=by subst hi4;exact Option.some.inj hr
    have Ig:Ld MD.P 27 x.cells 8 (iz false s):=by rw [ed] at hgd;exact hgd
    exact an (Zt k i s _ _ _ _) ⟨decide_eq_true (by omega),Ig,decide_eq_false (by omega),decide_eq_false (by simp at h1;omega),hv,lp,aR (by omega) (by omega),trivial⟩
 |true=>
  have ez:RI.z ⟨true,s⟩= -((bM s:Nat):Int):=rfl
  rw [ez] at fJ
  have hg:(L.set i ((bM s:Nat):Int))[i]? =some ((bM s:Nat):Int):=List.getElem?_set_self (by omega)
  have hsp:cg ((L.set i ((bM s:Nat):Int)).map iv) (0+i* 1) [iv (-((bM s:Nat):Int))] ((gR x.dm (i+1)).map iv):=Kx (by rw [List.set_set];exact fJ) (by rw [List.length_set];omega) (by omega)
  have hle:0+i* 1+1≤((L.set i ((bM s:Nat):Int)).map iv).length:=by rw [List.length_map,List.length_set];omega
  have hneg:IntKind.i64.wrap (0 - ((bM s:Nat):Int))= -((bM s:Nat):Int):=by simp only at hz;rw [wrap64]<;>omega
  by_cases h4:i<4
  · exact an (Zq k i (bM s:Nat) (-((bM s:Nat):Int)) x.d.g s x.d.s _ _ _ _ _) ⟨decide_eq_true (by omega),hgd,decide_eq_true (by omega),⟨rfl,h4⟩,x.JX h4 hr,decide_eq_false (by simp at h1;omega),hv,lp,⟨rfl,hi⟩,vm hg (by omega),hneg,⟨rfl,hi⟩,hle,hsp,aR (by omega) (by omega),trivial⟩
  · have hi4:i=4:=by omega
    have ed:x.d=⟨true,s⟩:=by subst hi4;exact Option.some.inj hr
    have Ig:Ld MD.P 27 x.cells 8 (iz true s):=by rw [ed] at hgd;exact hgd
    exact an (Zu k i (bM s:Nat) (-((bM s:Nat):Int)) s _ _ _ _ _) ⟨decide_eq_true (by omega),Ig,decide_eq_false (by omega),decide_eq_false (by simp at h1;omega),hv,lp,⟨rfl,hi⟩,vm hg (by omega),hneg,⟨rfl,hi⟩,hle,hsp,aR (by omega) (by omega),trivial⟩
theorem PZ (k:Nat) (x:aq) {i:Nat} {r:RI} (hi:i<5) (hr:x.dm[i]? =some r) (h:r.sh=false):aP MD t26 k 56 0 (WO x i (gR x.dm i) [])=some (.ret,⟨[(2, .bp 2 0),(3, .pv (bv false))],[(2,(gR x.dm i).map iv)],[],[]⟩):=by
 have hl:=sH (rl:=x.dm) rfl (i:=i) (by omega)
 have hv:=cD r.g r.s
 have hgd:Ld MD.P 27 x.cells 8 (iz x.d.g x.d.s):=x.QG
 generalize hL:gR x.dm i=L at*
 obtain ⟨l0,l1,l2,l3,l4,rfl⟩:=vn hl
 by_cases h3:r.s.size≤3
 · have hok:cF r.g r.s=false:=by
     unfold RI.sh at h
     rw [decide_eq_true h3,Bool.true_and] at h
     exact h
   rw [hok] at hv
   by_cases h4:i<4
   · exact an (Zo k i r.g x.d.g r.s x.d.s l0 l1 l2 l3 l4 _) ⟨decide_eq_true (by omega),hgd,decide_eq_true (by omega),⟨rfl,h4⟩,x.JX h4 hr,decide_eq_false (by omega),hv,trivial⟩
   · have hi4:i=4:=by omega
     subst hi4
     have ed:x.d=r:=Option.some.inj hr
     rw [ed] at hgd
     exact an (Zs k r.g r.s l0 l1 l2 l3 l4 _) ⟨rfl,hgd,rfl,decide_eq_false (by omega),hv,trivial⟩
 · by_cases h4:i<4
   · exact an (Zn k i r.g x.d.g r.s x.d.s l0 l1 l2 l3 l4 _) ⟨decide_eq_true (by omega),hgd,decide_eq_true (by omega),⟨rfl,h4⟩,x.JX h4 hr,decide_eq_true (by omega),trivial⟩
   · have hi4:i=4:=by omega
     subst hi4
     have ed:x.d=r:=Option.some.inj hr
     rw [ed] at hgd
     exact an (Zr k r.g r.s l0 l1 l2 l3 l4 _) ⟨rfl,hgd,rfl,decide_eq_true (by omega),trivial⟩
theorem KD {α:Type} {p:α→Bool}:∀(l:List α) (i:Nat),i<(l.takeWhile p).length→∃x,l[i]? =some x∧p x=true
 |[],i,h=>by simp at h
 |a::l,i,h=>by
  cases hp:p a with
  |false=>rw [List.takeWhile_cons,hp] at h;simp at h
  |true=>
   rw [List.takeWhile_cons,hp] at h
   cases i with
   |zero=>exact ⟨a,rfl,hp⟩
   |succ i=>exact KD l i (by simpa using h)
theorem KC {α:Type} {p:α→Bool}:∀(l:List α),(l.takeWhile p).length<l.length→∃x,l[(l.takeWhile p).length]? =some x∧p x=false
 |[],h=>by simp at h
 |a::l,h=>by
  cases hp:p a with
  |false=>exact ⟨a,by rw [List.takeWhile_cons,hp];rfl,hp⟩
  |true=>
   rw [List.takeWhile_cons,hp] at h ⊢
   exact KC l (by simpa using h)
theorem Eo {α:Type} {p:α→Bool}:∀(l:List α),(l.takeWhile p).length≤l.length
 |[]=>by simp
 |a::l=>by
  rw [List.takeWhile_cons]
  split
  · have:=Eo (p:=p) l;simp;omega
  · simp
def aq.kB (x:aq):Nat:=(x.dm.takeWhile RI.sh).length
theorem GK (x:aq):az P0 56 [.ag x.cells] (one (.aG [.ag ((gR x.dm x.kB).map iv),bv (decide (x.kB=5))])):=by
 have hle:x.kB≤5:=Eo x.dm
 have hl:=sH (rl:=x.dm) rfl hle
 have rounds:∀i,i<x.kB→aP MD t26 7 56 0 (WO x i (gR x.dm i) [])=some (.normal,WO x (i+1) (gR x.dm (i+1)) []):=fun i hi=>by
  obtain ⟨r,hr,hs⟩:=KD x.dm i hi
  exact O8 7 x (by omega) hr hs (by omega)
 by_cases h5:x.kB=5
 · rw [decide_eq_true h5]
   have lp:=bN (f:=aP MD t26 7 56 0) (S:=fun i=>WO x i (gR x.dm i) []) (n:=x.kB) rounds (r:=(.exit 0,WO x 5 (gR x.dm x.kB) [(9, .pv (bv false))])) (by
    rw [h5];exact an (Zv 7 x.cells _ _) ⟨rfl,trivial⟩) (by simp) 7 (by omega)
   generalize hL:gR x.dm x.kB=L at*
   obtain ⟨l0,l1,l2,l3,l4,rfl⟩:=vn hl
   exact ah af Bh (by rfl) (Zy 7 x l0 l1 l2 l3 l4) ⟨lp,trivial⟩
 · rw [decide_eq_false h5]
   obtain ⟨r,hr,hs⟩:=KC (p:=RI.sh) x.dm (by show x.kB<5;omega)
   have lp:=bN (f:=aP MD t26 7 56 0) (S:=fun i=>WO x i (gR x.dm i) []) (n:=x.kB) rounds (PZ 7 x (by omega) hr hs) (by simp) 7 (by omega)
   generalize hL:gR x.dm x.kB=L at*
   obtain ⟨l0,l1,l2,l3,l4,rfl⟩:=vn hl
   exact ah af Bh (by rfl) (Zx 7 x l0 l1 l2 l3 l4) ⟨lp,trivial⟩
def gI (l:List Int):Nat:=l.foldl (fun g x=>Nat.gcd g x.natAbs) 0
theorem K5 {l:List Int} {i:Nat} {x:Int} (h:l[i]? =some x):gI (l.take (i+1))=Nat.gcd (gI (l.take i)) x.natAbs:=by
 unfold gI
 rw [List.take_add_one,h]
 simp
def GI (i a b:Nat) (xs:List PV) (e:List (Nat×AV)):St:=⟨(1, .bp 1 0)::(4, .pv (iv i))::(5, .pv (iv a))::(6, .pv (iv b))::e,[(1,xs)],[],[]⟩
theorem K7 (k i:Nat) (xs:List PV):∀(m n:Nat),bg (aP MD t26 k 57 1) (m+1) (GI i n m xs [])=some (.exit 2,GI i (Nat.gcd n m) 0 xs [(21, .pv (bv false))]):=by
 intro m
 induction m using Nat.strongRecOn with
 |_ m ih=>
  intro n
  by_cases h:m=0
  · subst h
    rw [Nat.gcd_zero_right]
    exact aV (an (Vt k i n 0 xs) ⟨rfl,trivial⟩) (by simp)
  · have hr:n%m<m:=Nat.mod_lt _ (by omega)
    have:=ih (n%m) hr m
    rw [jG] at this
    exact bn (an (Vu k i n m (n%m:Nat) xs) ⟨bne_iff_ne.2 (by omega),fl _ _,decide_eq_false (by omega),trivial⟩) (bP (by omega) this)
theorem I9 (l:List Int) (hl:l.length=5) (hb:∀x∈l,x.natAbs<2^24):az P0 57 [.ag (l.map iv)] (one (iv (gI l:Nat))):=by
 obtain ⟨k,hk⟩:∃k,k=2^24+7:=⟨_,rfl⟩
 have lp:=bN (f:=aP MD t26 k 57 0) (S:=fun i=>⟨[(1, .bp 1 0),(3, .pv (iv (gI (l.take i):Nat))),(4, .pv (iv i))],[(1,l.map iv)],[],[]⟩) (n:=5) (fun i hi=>by
  obtain ⟨x,hx⟩:=get_some (l:=l) (i:=i) (by omega)
  have qI:=hb x (List.mem_of_getElem? hx)
  have lq:=bP (show x.natAbs+1≤k by omega) (K7 k i (l.map iv) x.natAbs (gI (l.take i)))
  simp only [K5 hx]
  exact an (Vv k (gI (l.take i)) i x (-x) (x.natAbs:Nat) (Nat.gcd (gI (l.take i)) x.natAbs:Nat) _) ⟨decide_eq_true (by omega),⟨rfl,hi⟩,vm hx (by omega),⟨rfl,hi⟩,vm hx (by omega),by rw [wrap64]<;>omega,by split<;>omega,lq,aR (by omega) (by omega),trivial⟩)
  (an (Vw k (gI (l.take 5):Nat) (l.map iv)) ⟨rfl,trivial⟩) (by simp) k (by omega)
 have e5:l.take 5=l:=List.take_of_length_le (by omega)
 simp only [e5] at lp
 obtain ⟨l0,l1,l2,l3,l4,rfl⟩:=vn hl
 exact ah af Bh (by rfl) (Vx k l0 l1 l2 l3 l4 _) ⟨lp,trivial⟩
end Go.Proofs.YtibbgjafjhcemaaDoor.Cul
namespace Go.Proofs.YtibbgjafjhcemaaDoor.Cul
open Go Go.RowKit
noncomputable def CJ:List PV→Option RV:=bJ (fun _:aq=>True) (fun x=>[.ag x.cells]) (fun x=>one (.aG [.ag ((gR x.dm x.kB).map iv),bv (decide (x.kB=5))]))
noncomputable def Gv:List PV→Option RV:=bJ (fun l:List Int=>l.length=5∧∀x∈l,x.natAbs<2^24) (fun l=>[.ag (l.map iv)]) (fun l=>one (iv (gI l:Nat)))
noncomputable def DO:List PV→Option RV:=bJ (fun _:RI=>True) (fun r=>[.ag r.cells]) (fun r=>one (ov r.g r.s))
noncomputable def t27:Cl:=bI [(56,CJ),(57,Gv),(58,ff),(59,Du),(60,A8),(61,Ea)]
theorem Y5 (k:Nat) (x:aq) (l0 l1 l2 l3 l4:Int):ay MD t27 k 39 [.ag x.cells] [.r (one (.aG [.ag [iv l0,iv l1,iv l2,iv l3,iv l4],bv true])), .c false]=
 some (RV.mk (bv false) none,[aa t27 56 [PV.ag x.cells] (RV.mk (PV.aG [PV.ag [iv l0,iv l1,iv l2,iv l3,iv l4],bv true]) none),decide (l4>(0:Int))=false]):=by kernel_rfl
theorem Y6 (k:Nat) (x:aq) (l0 l1 l2 l3 l4 g:Int) (b:Bool):ay MD t27 k 39 [.ag x.cells] [.r (one (.aG [.ag [iv l0,iv l1,iv l2,iv l3,iv l4],bv true])), .c true, .r (one (iv g)), .c b]=
 some (RV.mk (bv b) none,[aa t27 56 [PV.ag x.cells] (RV.mk (PV.aG [PV.ag [iv l0,iv l1,iv l2,iv l3,iv l4],bv true]) none),decide (l4>(0:Int))=true,aa t27 57 [PV.ag [iv l0,iv l1,iv l2,iv l3,iv l4]] (RV.mk (iv g) none),(g==(1:Int))=b]):=by kernel_rfl
theorem Y7 (k:Nat) (x:aq) (l0 l1 l2 l3 l4:Int):ay MD t27 k 39 [.ag x.cells] [.r (one (.aG [.ag [iv l0,iv l1,iv l2,iv l3,iv l4],bv false])), .u 5, .c true, .r (one (bv false))]=
 some (RV.mk (bv false) none,[aa t27 56 [PV.ag x.cells] (RV.mk (PV.aG [PV.ag [iv l0,iv l1,iv l2,iv l3,iv l4],bv false]) none),5≤k,true=true,aa t27 58 [PV.ag x.c0.cells] (RV.mk (bv false) none)]):=by kernel_rfl
theorem Y8 (k:Nat) (x:aq) (l0 l1 l2 l3 l4:Int) (y0:RI):ay MD t27 k 39 [.ag x.cells] [.r (one (.aG [.ag [iv l0,iv l1,iv l2,iv l3,iv l4],bv false])), .u 5, .c true, .r (one (bv true)), .r (one (.ag y0.cells)), .c true, .r (one (bv false))]=
 some (RV.mk (bv false) none,[aa t27 56 [PV.ag x.cells] (RV.mk (PV.aG [PV.ag [iv l0,iv l1,iv l2,iv l3,iv l4],bv false]) none),5≤k,true=true,aa t27 58 [PV.ag x.c0.cells] (RV.mk (bv true) none),aa t27 59 [PV.ag [bv false,sv (ByteArray.mk #[])],PV.ag x.c0.cells] (RV.mk (PV.ag y0.cells) none),true=true,aa t27 58 [PV.ag x.c1.cells] (RV.mk (bv false) none)]):=by kernel_rfl
theorem Y9 (k:Nat) (x:aq) (l0 l1 l2 l3 l4:Int) (y0 y1:RI):ay MD t27 k 39 [.ag x.cells] [.r (one (.aG [.ag [iv l0,iv l1,iv l2,iv l3,iv l4],bv false])), .u 5, .c true, .r (one (bv true)), .r (one (.ag y0.cells)), .c true, .r (one (bv true)), .r (one (.ag y1.cells)), .c true, .r (one (bv false))]=
 some (RV.mk (bv false) none,[aa t27 56 [PV.ag x.cells] (RV.mk (PV.aG [PV.ag [iv l0,iv l1,iv l2,iv l3,iv l4],bv false]) none),5≤k,true=true,aa t27 58 [PV.ag x.c0.cells] (RV.mk (bv true) none),aa t27 59 [PV.ag [bv false,sv (ByteArray.mk #[])],PV.ag x.c0.cells] (RV.mk (PV.ag y0.cells) none),true=true,aa t27 58 [PV.ag x.c1.cells] (RV.mk (bv true) none),aa t27 59 [PV.ag y0.cells,PV.ag x.c1.cells] (RV.mk (PV.ag y1.cells) none),true=true,aa t27 58 [PV.ag x.c2.cells] (RV.mk (bv false) none)]):=by kernel_rfl
theorem Za (k:Nat) (x:aq) (l0 l1 l2 l3 l4:Int) (y0 y1 y2:RI):ay MD t27 k 39 [.ag x.cells] [.r (one (.aG [.ag [iv l0,iv l1,iv l2,iv l3,iv l4],bv false])), .u 5, .c true, .r (one (bv true)), .r (one (.ag y0.cells)), .c true, .r (one (bv true)), .r (one (.ag y1.cells)), .c true, .r (one (bv true)), .r (one (.ag y2.cells)), .c true, .r (one (bv false))]=
 some (RV.mk (bv false) none,[aa t27 56 [PV.ag x.cells] (RV.mk (PV.aG [PV.ag [iv l0,iv l1,iv l2,iv l3,iv l4],bv false]) none),5≤k,true=true,aa t27 58 [PV.ag x.c0.cells] (RV.mk (bv true) none),aa t27 59 [PV.ag [bv false,sv (ByteArray.mk #[])],PV.ag x.c0.cells] (RV.mk (PV.ag y0.cells) none),true=true,aa t27 58 [PV.ag x.c1.cells] (RV.mk (bv true) none),aa t27 59 [PV.ag y0.cells,PV.ag x.c1.cells] (RV.mk (PV.ag y1.cells) none),true=true,aa t27 58 [PV.ag x.c2.cells] (RV.mk (bv true) none),aa t27 59 [PV.ag y1.cells,PV.ag x.c2.cells] (RV.mk (PV.ag y2.cells) none),true=true,aa t27 58 [PV.ag x.c3.cells] (RV.mk (bv false) none)]):=by kernel_rfl
theorem Zb (k:Nat) (x:aq) (l0 l1 l2 l3 l4:Int) (y0 y1 y2 y3:RI):ay MD t27 k 39 [.ag x.cells] [.r (one (.aG [.ag [iv l0,iv l1,iv l2,iv l3,iv l4],bv false])), .u 5, .c true, .r (one (bv true)), .r (one (.ag y0.cells)), .c true, .r (one (bv true)), .r (one (.ag y1.cells)), .c true, .r (one (bv true)), .r (one (.ag y2.cells)), .c true, .r (one (bv true)), .r (one (.ag y3.cells)), .c false, .r (one (bv false))]=
 some (RV.mk (bv false) none,[aa t27 56 [PV.ag x.cells] (RV.mk (PV.aG [PV.ag [iv l0,iv l1,iv l2,iv l3,iv l4],bv false]) none),5≤k,true=true,aa t27 58 [PV.ag x.c0.cells] (RV.mk (bv true) none),aa t27 59 [PV.ag [bv false,sv (ByteArray.mk #[])],PV.ag x.c0.cells] (RV.mk (PV.ag y0.cells) none),true=true,aa t27 58 [PV.ag x.c1.cells] (RV.mk (bv true) none),aa t27 59 [PV.ag y0.cells,PV.ag x.c1.cells] (RV.mk (PV.ag y1.cells) none),true=true,aa t27 58 [PV.ag x.c2.cells] (RV.mk (bv true) none),aa t27 59 [PV.ag y1.cells,PV.ag x.c2.cells] (RV.mk (PV.ag y2.cells) none),true=true,aa t27 58 [PV.ag x.c3.cells] (RV.mk (bv true) none),aa t27 59 [PV.ag y2.cells,PV.ag x.c3.cells] (RV.mk (PV.ag y3.cells) none),false=false,aa t27 58 [PV.ag x.d.cells] (RV.mk (bv false) none)]):=by kernel_rfl
theorem Zc (k:Nat) (x:aq) (l0 l1 l2 l3 l4 sg:Int) (y0 y1 y2 y3:RI):ay MD t27 k 39 [.ag x.cells] [.r (one (.aG [.ag [iv l0,iv l1,iv l2,iv l3,iv l4],bv false])), .u 5, .c true, .r (one (bv true)), .r (one (.ag y0.cells)), .c true, .r (one (bv true)), .r (one (.ag y1.cells)), .c true, .r (one (bv true)), .r (one (.ag y2.cells)), .c true, .r (one (bv true)), .r (one (.ag y3.cells)), .c false, .r (one (bv true)), .r (one (iv sg)), .c false]=
 some (RV.mk (bv false) none,[aa t27 56 [PV.ag x.cells] (RV.mk (PV.aG [PV.ag [iv l0,iv l1,iv l2,iv l3,iv l4],bv false]) none),5≤k,true=true,aa t27 58 [PV.ag x.c0.cells] (RV.mk (bv true) none),aa t27 59 [PV.ag [bv false,sv (ByteArray.mk #[])],PV.ag x.c0.cells] (RV.mk (PV.ag y0.cells) none),true=true,aa t27 58 [PV.ag x.c1.cells] (RV.mk (bv true) none),aa t27 59 [PV.ag y0.cells,PV.ag x.c1.cells] (RV.mk (PV.ag y1.cells) none),true=true,aa t27 58 [PV.ag x.c2.cells] (RV.mk (bv true) none),aa t27 59 [PV.ag y1.cells,PV.ag x.c2.cells] (RV.mk (PV.ag y2.cells) none),true=true,aa t27 58 [PV.ag x.c3.cells] (RV.mk (bv true) none),aa t27 59 [PV.ag y2.cells,PV.ag x.c3.cells] (RV.mk (PV.ag y3.cells) none),false=false,aa t27 58 [PV.ag x.d.cells] (RV.mk (bv true) none),aa t27 60 [PV.ag x.d.cells] (RV.mk (iv sg) none),decide (sg>(0:Int))=false]):=by kernel_rfl
theorem Zd (k:Nat) (x:aq) (l0 l1 l2 l3 l4 sg:Int) (y0 y1 y2 y3 y4 y5:RI) (b:Bool):ay MD t27 k 39 [.ag x.cells] [.r (one (.aG [.ag [iv l0,iv l1,iv l2,iv l3,iv l4],bv false])), .u 5, .c true, .r (one (bv true)), .r (one (.ag y0.cells)), .c true, .r (one (bv true)), .r (one (.ag y1.cells)), .c true, .r (one (bv true)), .r (one (.ag y2.cells)), .c true, .r (one (bv true)), .r (one (.ag y3.cells)), .c false, .r (one (bv true)), .r (one (iv sg)), .c true, .r (one (.ag y4.cells)), .r (one (.ag y5.cells)), .g b]=
 some (RV.mk (bv b) none,[aa t27 56 [PV.ag x.cells] (RV.mk (PV.aG [PV.ag [iv l0,iv l1,iv l2,iv l3,iv l4],bv false]) none),5≤k,true=true,aa t27 58 [PV.ag x.c0.cells] (RV.mk (bv true) none),aa t27 59 [PV.ag [bv false,sv (ByteArray.mk #[])],PV.ag x.c0.cells] (RV.mk (PV.ag y0.cells) none),true=true,aa t27 58 [PV.ag x.c1.cells] (RV.mk (bv true) none),aa t27 59 [PV.ag y0.cells,PV.ag x.c1.cells] (RV.mk (PV.ag y1.cells) none),true=true,aa t27 58 [PV.ag x.c2.cells] (RV.mk (bv true) none),aa t27 59 [PV.ag y1.cells,PV.ag x.c2.cells] (RV.mk (PV.ag y2.cells) none),true=true,aa t27 58 [PV.ag x.c3.cells] (RV.mk (bv true) none),aa t27 59 [PV.ag y2.cells,PV.ag x.c3.cells] (RV.mk (PV.ag y3.cells) none),false=false,aa t27 58 [PV.ag x.d.cells] (RV.mk (bv true) none),aa t27 60 [PV.ag x.d.cells] (RV.mk (iv sg) none),decide (sg>(0:Int))=true,aa t27 59 [PV.ag y3.cells,PV.ag x.d.cells] (RV.mk (PV.ag y4.cells) none),aa t27 61 [iv (1:Int)] (RV.mk (PV.ag y5.cells) none),gw MD.P BinOp.eql 27 (Operand.tmp (51:Nat)) (Operand.tmp (52:Nat)) (Value.agg y4.vals.toArray) (Value.agg y5.vals.toArray) b]):=by kernel_rfl
def RI.neg (r:RI):RI:=⟨!r.g&& !decide (r.s.size=0),r.s⟩
def aq.i5 (x:aq):ax:=⟨x.c0.z,x.c1.z,x.c2.z,x.c3.z,x.d.z⟩
def aq.lF (x:aq):Bool:=x.c0.ok&&x.c1.ok&&x.c2.ok&&x.c3.ok&&x.d.ok
def aq.ok (x:aq):Bool:=x.lF&&x.i5.ok
def aq.neg (x:aq):aq:=if x.ok then ⟨x.c0.neg,x.c1.neg,x.c2.neg,x.c3.neg,x.d⟩ else .zero
def aq.small (x:aq):Prop:=∀r∈x.dm,r.s.size<2^30
noncomputable def yd:List PV→Option RV:=bJ aq.small (fun x=>[.ag x.cells]) (fun x=>one (bv x.ok))
noncomputable def t28:Cl:=bI [(43,yd),(54,DO)]
noncomputable def t29:Cl:=bI [(39,yd),(55,DO)]
theorem Xp (k:Nat) (x:aq):ay MD t28 k 37 [.ag x.cells] [.r (one (bv false))]=
 some (RV.mk (PV.ag [bv false,sv (ByteArray.mk #[]),bv false,sv (ByteArray.mk #[]),bv false,sv (ByteArray.mk #[]),bv false,sv (ByteArray.mk #[]),bv false,sv (ByteArray.mk #[])]) none,[aa t28 43 [PV.ag x.cells] (RV.mk (bv false) none)]):=by kernel_rfl
theorem Xq (k:Nat) (x:aq) (y0 y1 y2 y3:RI):ay MD t28 k 37 [.ag x.cells] [.r (one (bv true)), .u 5, .c true, .r (one (.ag y0.cells)), .c true, .r (one (.ag y1.cells)), .c true, .r (one (.ag y2.cells)), .c true, .r (one (.ag y3.cells)), .c false]=
 some (RV.mk (PV.ag [bv y0.g,sv y0.s,bv y1.g,sv y1.s,bv y2.g,sv y2.s,bv y3.g,sv y3.s,bv x.d.g,sv x.d.s]) none,[aa t28 43 [PV.ag x.cells] (RV.mk (bv true) none),5≤k,true=true,aa t28 54 [PV.ag x.c0.cells] (RV.mk (PV.ag y0.cells) none),true=true,aa t28 54 [PV.ag x.c1.cells] (RV.mk (PV.ag y1.cells) none),true=true,aa t28 54 [PV.ag x.c2.cells] (RV.mk (PV.ag y2.cells) none),true=true,aa t28 54 [PV.ag x.c3.cells] (RV.mk (PV.ag y3.cells) none),false=false]):=by kernel_rfl
theorem Xr (k:Nat) (x:aq):ay MD t29 k 38 [.ag x.cells] [.r (one (bv false))]=
 some (RV.mk (PV.ag [bv false,sv (ByteArray.mk #[]),bv false,sv (ByteArray.mk #[]),bv false,sv (ByteArray.mk #[]),bv false,sv (ByteArray.mk #[]),bv false,sv (ByteArray.mk #[])]) none,[aa t29 39 [PV.ag x.cells] (RV.mk (bv false) none)]):=by kernel_rfl
theorem Xs (k:Nat) (x:aq) (y0 y1 y2 y3:RI):ay MD t29 k 38 [.ag x.cells] [.r (one (bv true)), .u 5, .c true, .r (one (.ag y0.cells)), .c true, .r (one (.ag y1.cells)), .c true, .r (one (.ag y2.cells)), .c true, .r (one (.ag y3.cells)), .c false]=
 some (RV.mk (PV.ag [bv y0.g,sv y0.s,bv y1.g,sv y1.s,bv y2.g,sv y2.s,bv y3.g,sv y3.s,bv x.d.g,sv x.d.s]) none,[aa t29 39 [PV.ag x.cells] (RV.mk (bv true) none),5≤k,true=true,aa t29 55 [PV.ag x.c0.cells] (RV.mk (PV.ag y0.cells) none),true=true,aa t29 55 [PV.ag x.c1.cells] (RV.mk (PV.ag y1.cells) none),true=true,aa t29 55 [PV.ag x.c2.cells] (RV.mk (PV.ag y2.cells) none),true=true,aa t29 55 [PV.ag x.c3.cells] (RV.mk (PV.ag y3.cells) none),false=false]):=by kernel_rfl
def RI.of (z:Int):RI:=⟨decide (z<0),ai z.natAbs⟩
theorem RI.qj (z:Int):(RI.of z).ok=true:=mc z
theorem RI.N6 (z:Int):(RI.of z).z=z:=by
 unfold RI.z RI.of
 simp only [gi]
 by_cases h:z<0
 · rw [decide_eq_true h,if_pos rfl];omega
 · rw [decide_eq_false h];simp;omega
theorem RI.ql {r:RI} (h:r.ok=true):r=RI.of r.z:=by
 obtain ⟨z,h1,h2,h3⟩:=II h
 have e:r=RI.of z:=by obtain ⟨g,s⟩:=r;simp only at h2 h3;rw [h2,h3];rfl
 rw [e,RI.N6]
def aq.of (y:ax):aq:=⟨RI.of y.a,RI.of y.b,RI.of y.c,RI.of y.d,RI.of y.n⟩
theorem aq.N5 (y:ax):(aq.of y).lF=true:=by simp [aq.lF,aq.of,RI.qj]
theorem aq.qi (y:ax):(aq.of y).i5=y:=by simp [aq.i5,aq.of,RI.N6]
theorem aq.qj (y:ax):(aq.of y).ok=y.ok:=by rw [aq.ok,aq.N5,aq.qi,Bool.true_and]
theorem aq.NB {x:aq} (h:x.lF=true):x=aq.of x.i5:=by
 unfold aq.lF at h
 simp only [Bool.and_eq_true] at h
 obtain ⟨c0,c1,c2,c3,d⟩:=x
 simp only [aq.i5,aq.of,aq.mk.injEq]
 exact ⟨RI.ql h.1.1.1.1,RI.ql h.1.1.1.2,RI.ql h.1.1.2,RI.ql h.1.2,RI.ql h.2⟩
theorem aq.Jn {y:ax} (h:(aq.of y).small):y.small:=by
 have k:=fun r hr=>h r hr
 simp only [aq.dm,aq.of,List.mem_cons,List.not_mem_nil,or_false] at k
 exact ⟨⟨k _ (.inl rfl),k _ (.inr (.inl rfl))⟩,⟨k _ (.inr (.inr (.inl rfl))),k _ (.inr (.inr (.inr (.inl rfl))))⟩,k _ (.inr (.inr (.inr (.inr rfl))))⟩
theorem nW (x:aq) (h:x.small):az P0 43 [.ag x.cells] (one (bv x.ok)):=by
 cases hi:x.lF with
 |true=>
  have e:=aq.NB hi
  generalize x.i5=y at e
  subst e
  rw [aq.qj]
  exact nQ y (aq.Jn h)
 |false=>
  have e:x.ok=false:=by rw [aq.ok,hi,Bool.false_and]
  rw [e]
  exact Dt _ _ _ _ _ _ _ _ _ _ hi
theorem RI.aX {a b:RI} (e:a.cells=b.cells):a=b:=by
 obtain ⟨g,s⟩:=a;obtain ⟨g',s'⟩:=b
 simp only [RI.cells,List.cons.injEq,and_true] at e
 rw [EB e.1,wh e.2]
theorem aq.aX {a b:aq} (e:a.cells=b.cells):a=b:=by
 obtain ⟨a0,a1,a2,a3,a4⟩:=a;obtain ⟨b0,b1,b2,b3,b4⟩:=b
 have l:∀r:RI,r.cells.length=2:=fun _=>rfl
 unfold aq.cells at e
 have k1:=List.append_inj e (by simp [l])
 have k2:=List.append_inj k1.1 (by simp [l])
 have k3:=List.append_inj k2.1 (by simp [l])
 have k4:=List.append_inj k3.1 (by simp [l])
 rw [aq.mk.injEq]
 exact ⟨RI.aX k4.1,RI.aX k4.2,RI.aX k3.2,RI.aX k2.2,RI.aX k1.2⟩
theorem Ed (x:aq):CJ [.ag x.cells]=some (one (.aG [.ag ((gR x.dm x.kB).map iv),bv (decide (x.kB=5))])):=
 aM (enc:=fun x:aq=>[.ag x.cells]) (fun a b e=>by
  simp only [List.cons.injEq,and_true,PV.ag.injEq] at e
  rw [aq.aX e]) trivial
theorem K8 {l m:List Int} (h:l.map iv=m.map iv):l=m:=(List.map_inj_right (fun _ _ e=>dA e)).1 h
theorem Gx {l:List Int} (h:l.length=5) (hb:∀x∈l,x.natAbs<2^24):Gv [.ag (l.map iv)]=some (one (iv (gI l:Nat))):=
 aM (enc:=fun l:List Int=>[.ag (l.map iv)]) (fun a b e=>by
  simp only [List.cons.injEq,and_true,PV.ag.injEq] at e
  rw [K8 e]) ⟨h,hb⟩
theorem Lr (r:RI):DO [.ag r.cells]=some (one (ov r.g r.s)):=
 aM (enc:=fun r:RI=>[.ag r.cells]) (fun a b e=>by
  simp only [List.cons.injEq,and_true,PV.ag.injEq] at e
  rw [RI.aX e]) trivial
theorem jT {r:RI} (h:r.ok=true):DO [.ag r.cells]=some (one (.ag r.neg.cells)):=by
 have:=Lr r
 unfold ov at this
 rw [if_pos (show cF r.g r.s=true from h)] at this
 exact this
theorem hO {x:aq} (h:x.small):yd [.ag x.cells]=some (one (bv x.ok)):=
 aM (enc:=fun x:aq=>[.ag x.cells]) (fun a b e=>by
  simp only [List.cons.injEq,and_true,PV.ag.injEq] at e
  rw [aq.aX e]) h
theorem kr:aI MD.P t27:=aH
 (aj (au fun x _=>GK x)
 (aj (au fun l h=>I9 l h.1 h.2)
 (aj (au fun x _=>jX x.1 x.2)
 (aj (au fun x h=>LC x.1 x.2 h.1 h.2)
 (aj (au fun x _=>Jg x.1 x.2)
 (aj (au fun n h=>AZ n h.1 h.2) aE))))))
theorem JI (y:ax):gI [y.a,y.b,y.c,y.d,y.n]=y.gcd:=by
 simp only [gI,List.foldl,ax.gcd,Nat.gcd_zero_left]
 rw [Nat.gcd_comm _ y.n.natAbs,←Nat.gcd_assoc,←Nat.gcd_assoc,←Nat.gcd_assoc]
theorem RI.TB {r:RI} (h:r.sh=true):r.z.natAbs<2^24:=by
 have h1:=RI.C3 (RI.xu h).1
 unfold RI.z
 split<;>omega
theorem Hr {α:Type} {p:α→Bool}:∀(l:List α),(l.takeWhile p).length=l.length→∀x∈l,p x=true
 |[],_,x,h=>by simp at h
 |a::l,e,x,h=>by
  cases hp:p a with
  |false=>rw [List.takeWhile_cons,hp] at e;simp at e
  |true=>
   rw [List.takeWhile_cons,hp] at e
   rcases List.mem_cons.1 h with rfl|h
   · exact hp
   · exact Hr l (by simpa using e) x h
theorem KW (n:Nat):RI.dB (RI.of (n:Int)) (RI.of 1)=decide (n=1):=by
 have e:RI.dB (RI.of (n:Int)) (RI.of 1)=(ai n==ai 1):=by
  unfold RI.dB RI.of
  simp only [Int.natAbs_natCast]
  rw [decide_eq_false (show ¬(n:Int)<0 by omega)];rfl
 rw [e,Aq]
theorem qp (x:aq) (h:x.small):az P0 39 [.ag x.cells] (one (bv x.ok)):=by
 have hw:=Ed x
 by_cases h5:x.kB=5
 · have hall:=Hr (p:=RI.sh) x.dm h5
   have hm:∀r∈x.dm,r.ok=true:=fun r hr=>(RI.xu (hall r hr)).2
   have hz:∀r∈x.dm,r.z.natAbs<2^24:=fun r hr=>RI.TB (hall r hr)
   have hi:x.lF=true:=by
    simp only [aq.lF,Bool.and_eq_true]
    exact ⟨⟨⟨⟨hm _ (by simp [aq.dm]),hm _ (by simp [aq.dm])⟩,hm _ (by simp [aq.dm])⟩,hm _ (by simp [aq.dm])⟩,hm _ (by simp [aq.dm])⟩
   have el:gR x.dm x.kB=[x.c0.z,x.c1.z,x.c2.z,x.c3.z,x.d.z]:=by rw [h5];rfl
   rw [el,h5] at hw
   have hg:=Gx (l:=[x.c0.z,x.c1.z,x.c2.z,x.c3.z,x.d.z]) rfl (fun z dX=>by
    have:z∈x.dm.map RI.z:=dX
    obtain ⟨r,hr,rfl⟩:=List.mem_map.1 this
    exact hz r hr)
   have e1:gI [x.c0.z,x.c1.z,x.c2.z,x.c3.z,x.d.z]=x.i5.gcd:=JI x.i5
   rw [e1] at hg
   have Me:x.ok=(decide (0<x.d.z)&&decide (x.i5.gcd=1)):=by rw [aq.ok,hi,Bool.true_and];rfl
   rw [Me]
   by_cases hd:0<x.d.z
   · rw [decide_eq_true hd,Bool.true_and]
     refine ah af kr (by rfl) (Y6 1 x _ _ _ _ _ (x.i5.gcd:Nat) (decide (x.i5.gcd=1))) ⟨hw,decide_eq_true hd,hg, ?_,trivial⟩
     by_cases e:x.i5.gcd=1
     · rw [e];rfl
     · rw [decide_eq_false e];exact beq_false_of_ne (by omega)
   · rw [decide_eq_false hd,Bool.false_and]
     exact ah af kr (by rfl) (Y5 1 x _ _ _ _ _) ⟨hw,decide_eq_false hd,trivial⟩
 · rw [decide_eq_false h5] at hw
   obtain ⟨l0,l1,l2,l3,l4,hl⟩:=vn (sH (rl:=x.dm) rfl (i:=x.kB) (Eo x.dm))
   rw [hl] at hw
   have sz:=fun r hr=>h r hr
   simp only [aq.dm,List.mem_cons,List.not_mem_nil,or_false] at sz
   have z0:=sz x.c0 (.inl rfl)
   have z1:=sz x.c1 (.inr (.inl rfl))
   have z2:=sz x.c2 (.inr (.inr (.inl rfl)))
   have z3:=sz x.c3 (.inr (.inr (.inr (.inl rfl))))
   have zd:=sz x.d (.inr (.inr (.inr (.inr rfl))))
   clear hl h5 h sz
   have vt:∀r:RI,ff [.ag r.cells]=some (one (bv r.ok)):=fun r=>cD r.g r.s
   have v0:=vt x.c0
   have v1:=vt x.c1
   have v2:=vt x.c2
   have v3:=vt x.c3
   have vd:=vt x.d
   have bad:∀{b:Bool},x.lF=false→x.ok=false:=fun e=>by rw [aq.ok,e,Bool.false_and]
   have gz:∀{g:Nat} {r:RI},r.ok=true→r.s.size<2^30→(ai g).size<2^30→Du [.ag (RI.of (g:Int)).cells, .ag r.cells]=some (one (.ag (RI.of ((Nat.gcd g r.z.natAbs:Nat):Int)).cells))∧(ai (Nat.gcd g r.z.natAbs)).size<2^30:=by
    intro g r hr hs hg
    have e:=RI.ql hr
    have hs':(ai r.z.natAbs).size<2^30:=by rw [e] at hs;exact hs
    have:=oM (a:=(g:Int)) (b:=r.z) (by simpa using hg) hs'
    simp only [Int.natAbs_natCast] at this
    refine ⟨?_,pR hg hs'⟩
    conv=>lhs;rw [e]
    exact this
   cases h0:x.c0.ok with
   |false=>
    rw [bad (b:=true) (by simp [aq.lF,h0])]
    rw [h0] at v0
    exact ah af kr (by rfl) (Y7 5 x _ _ _ _ _) ⟨hw,by omega,rfl,v0,trivial⟩
   |true=>
    rw [h0] at v0
    obtain ⟨g0,s0⟩:=gz (g:=0) h0 z0 (by decide)
    cases h1:x.c1.ok with
    |false=>
     rw [bad (b:=true) (by simp [aq.lF,h1])]
     rw [h1] at v1
     exact ah af kr (by rfl) (Y8 5 x _ _ _ _ _ _) ⟨hw,by omega,rfl,v0,g0,rfl,v1,trivial⟩
    |true=>
     rw [h1] at v1
     obtain ⟨g1,s1⟩:=gz h1 z1 s0
     cases h2:x.c2.ok with
     |false=>
      rw [bad (b:=true) (by simp [aq.lF,h2])]
      rw [h2] at v2
      exact ah af kr (by rfl) (Y9 5 x _ _ _ _ _ _ _) ⟨hw,by omega,rfl,v0,g0,rfl,v1,g1,rfl,v2,trivial⟩
     |true=>
      rw [h2] at v2
      obtain ⟨g2,s2⟩:=gz h2 z2 s1
      cases h3:x.c3.ok with
      |false=>
       rw [bad (b:=true) (by simp [aq.lF,h3])]
       rw [h3] at v3
       exact ah af kr (by rfl) (Za 5 x _ _ _ _ _ _ _ _) ⟨hw,by omega,rfl,v0,g0,rfl,v1,g1,rfl,v2,g2,rfl,v3,trivial⟩
      |true=>
       rw [h3] at v3
       obtain ⟨g3,s3⟩:=gz h3 z3 s2
       cases h4:x.d.ok with
       |false=>
        rw [bad (b:=true) (by simp [aq.lF,h4])]
        rw [h4] at vd
        exact ah af kr (by rfl) (Zb 5 x _ _ _ _ _ _ _ _ _) ⟨hw,by omega,rfl,v0,g0,rfl,v1,g1,rfl,v2,g2,rfl,v3,g3,rfl,vd,trivial⟩
       |true=>
        rw [h4] at vd
        obtain ⟨g4,_⟩:=gz h4 zd s3
        have hi:x.lF=true:=by simp [aq.lF,h0,h1,h2,h3,h4]
        have Me:x.ok=(decide (0<x.d.z)&&decide (x.i5.gcd=1)):=by rw [aq.ok,hi,Bool.true_and];rfl
        have sg:A8 [.ag x.d.cells]=some (one (iv (if x.d.z<0 then -1 else if x.d.z=0 then 0 else 1))):=by
         have:=xq x.d.g x.d.s
         have e:=RI.ql h4
         have e2:oB x.d.g x.d.s=oB (decide (x.d.z<0)) (ai x.d.z.natAbs):=by
          conv=>lhs;rw [e]
          rfl
         rw [e2,A9] at this
         exact this
        rw [Me]
        by_cases hd:0<x.d.z
        · rw [decide_eq_true hd,Bool.true_and]
          rw [if_neg (by omega),if_neg (by omega)] at sg
          have e1:Nat.gcd (Nat.gcd (Nat.gcd (Nat.gcd (Nat.gcd 0 x.c0.z.natAbs) x.c1.z.natAbs) x.c2.z.natAbs) x.c3.z.natAbs) x.d.z.natAbs=x.i5.gcd:=JI x.i5
          rw [e1] at g4
          have hq:=wR (m:=51) (n:=52) (KW x.i5.gcd)
          exact ah af kr (by rfl) (Zd 5 x _ _ _ _ _ 1 _ _ _ _ _ (RI.of 1) _) ⟨hw,by omega,rfl,v0,g0,rfl,v1,g1,rfl,v2,g2,rfl,v3,g3,rfl,vd,sg,rfl,g4,sM (by decide) (by decide),hq,trivial⟩
        · rw [decide_eq_false hd,Bool.false_and]
          exact ah af kr (by rfl) (Zc 5 x _ _ _ _ _ _ _ _ _ _) ⟨hw,by omega,rfl,v0,g0,rfl,v1,g1,rfl,v2,g2,rfl,v3,g3,rfl,vd,sg,by split<;>first|rfl|(split<;>first|rfl|omega),trivial⟩
theorem G8:aI MD.P t28:=aH (aj (au fun x h=>nW x h) (aj (au fun r _=>FX r.g r.s) aE))
theorem G9:aI MD.P t29:=aH (aj (au fun x h=>qp x h) (aj (au fun r _=>LD r.g r.s) aE))
theorem aq.fK {x:aq} (h:x.ok=true):x.c0.ok=true∧x.c1.ok=true∧x.c2.ok=true∧x.c3.ok=true∧x.d.ok=true:=by
 unfold aq.ok aq.lF at h
 simp only [Bool.and_eq_true] at h
 exact ⟨h.1.1.1.1.1,h.1.1.1.1.2,h.1.1.1.2,h.1.1.2,h.1.2⟩
theorem Cz (x:aq) (h:x.small):az P0 37 [.ag x.cells] (one (.ag x.neg.cells)):=by
 have hv:=hO h
 unfold aq.neg
 cases e:x.ok with
 |false=>rw [e] at hv;exact ah af G8 (by rfl) (Xp 5 x) ⟨hv,trivial⟩
 |true=>
  rw [e] at hv
  obtain ⟨k0,k1,k2,k3,_⟩:=aq.fK e
  exact ah af G8 (by rfl) (Xq 5 x _ _ _ _) ⟨hv,by omega,rfl,jT k0,rfl,jT k1,rfl,jT k2,rfl,jT k3,rfl,trivial⟩
theorem I8 (x:aq) (h:x.small):az P0 38 [.ag x.cells] (one (.ag x.neg.cells)):=by
 have hv:=hO h
 unfold aq.neg
 cases e:x.ok with
 |false=>rw [e] at hv;exact ah af G9 (by rfl) (Xr 5 x) ⟨hv,trivial⟩
 |true=>
  rw [e] at hv
  obtain ⟨k0,k1,k2,k3,_⟩:=aq.fK e
  exact ah af G9 (by rfl) (Xs 5 x _ _ _ _) ⟨hv,by omega,rfl,jT k0,rfl,jT k1,rfl,jT k2,rfl,jT k3,rfl,trivial⟩
end Go.Proofs.YtibbgjafjhcemaaDoor.Cul
