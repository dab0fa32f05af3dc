/- Proved: for any settings, any offset and any two lists of positions, culetlaw50.TransferSheet returns true and leaves its arguments as_ they were; the conditions are those of the given card (the package-level tables unicode/utf8.acceptRanges and unicode/utf8.first hold what the program's text lays). -/
import Derived.Carry
import Derived.Test.YtibbgjafjhcemaaDoorRSHG7
set_option linter.unusedVariables false
set_option maxRecDepth 100000
namespace Go.Proofs.YtibbgjafjhcemaaDoor.Cul
open Go Go.RowKit Go.ChangeShapes Go.WideShapes Go.ChangeAt
open Go.Proofs Go.Proofs.YtibbgjafjhcemaaDoor
namespace TransferSheet
theorem Ej:MD.P.underlying 47=some (.slice 36):=by kernel_rfl
theorem PE:MD.P.underlying 48=some (.slice 3):=by kernel_rfl
theorem JW:MD.P.underlying 49=some (.array 2 48):=by kernel_rfl
theorem RB:MD.P.cellsOf 48=1:=by kernel_rfl
theorem RC:MD.P.cellsOf 49=2:=by kernel_rfl
theorem RG:MD.P.cellTypes MD.P.depth 49=some [48,48]:=by kernel_rfl
theorem lo:laidOutB MD.P=true:=by kernel_rfl
theorem Tp:MD.P.readableRec 47=true:=by kernel_rfl
theorem Tq:MD.P.readableRec 49=true:=by kernel_rfl
theorem T6:47<MD.P.types.size:=of_decide_eq_true (by kernel_rfl)
theorem T7:49<MD.P.types.size:=of_decide_eq_true (by kernel_rfl)
section
variable {W:World} {base:Nat} {H:Type} {enc:TypeId×Value→H} {d:DataW H} {ps:List MemPlace}
theorem FZ {v:Value} (hv:Value.okWide MD.P W .any base 47 v) (h:DataW.Trod enc MD.P W 0 (fun _=>true) true 47 v d ps):∃l:List aj,Rp W (B7 W) (.sl 3 l.length (aq l)) v:=by
 obtain ⟨a,len,cap,rfl⟩:=okWide_slice Ej hv
 obtain ⟨fuel,hf⟩:=h
 have hc:Cell.okWide MD.P W .any base 47 (.slice a len cap):=by unfold Value.okWide at hv;rw [Ej] at hv;exact hv
 obtain ⟨l,hl,_⟩:=JK (vals:=aj.vals) (en:=aj.cells) (z:=3) (fun _=>rfl) (fun _=>rfl) (fun _=>rfl) Tj Ej Lt hc hf
 exact ⟨l,hl⟩
theorem vI {v:Value} {fuel:Nat} {x:DataW H×List MemPlace} (hc:Cell.okWide MD.P W .any base 48 v) (hf:DataW.trod enc MD.P W 0 (fun _=>true) true fuel 48 [v]=some x):∃l:List Int,Rp W (B7 W) (.sl 1 l.length (bz l)) v∧v.oneCell'=true:=
 JK (vals:=fun n:Int=>[.int .i64 n]) (en:=fun n:Int=>[iv n]) (z:=1) (fun _=>rfl) (fun _=>rfl) (fun _=>rfl) (F3 JU) PE Qk hc hf
theorem Ie {v:Value} (hv:Value.okWide MD.P W .any base 49 v) (h:DataW.Trod enc MD.P W 0 (fun _=>true) true 49 v d ps):∃x y:List Int,Rp W (B7 W) (.ag [.sl 1 x.length (bz x), .sl 1 y.length (bz y)]) v:=by
 unfold Value.okWide at hv
 rw [JW] at hv
 obtain ⟨cs,rfl,hs,ts,hts,_,hrow⟩:=hv
 rw [RG] at hts
 simp only [Option.some.injEq] at hts
 subst hts
 rw [RC] at hs
 obtain ⟨c0,c1,hcs⟩:=Nf (l:=cs.toList) (by simpa using hs)
 obtain rfl:cs= #[c0,c1]:=by rw [←Array.toArray_toList (xs:=cs),hcs]
 obtain ⟨u0,e0,o0⟩:=hrow 0 c0 rfl
 obtain ⟨u1,e1,o1⟩:=hrow 1 c1 rfl
 simp only [List.length_cons,List.length_nil,Nat.zero_mod,List.getElem?_cons_zero,Option.some.injEq] at e0
 simp only [List.length_cons,List.length_nil,Nat.reduceAdd,Nat.one_mod,List.getElem?_cons_succ,List.getElem?_cons_zero,Option.some.injEq] at e1
 subst e0 e1
 obtain ⟨fuel,hf⟩:=h
 cases fuel with
 |zero=>simp [DataW.trod] at hf
 |succ fuel=>
  simp only [DataW.trod,JW] at hf
  split at hf
  · rw [RB] at hf
    simp only [Option.map_eq_some_iff] at hf
    obtain ⟨xs,hx,_⟩:=hf
    rw [show List.range 2=[0,1] from rfl] at hx
    simp only [List.mapM_cons,Option.bind_eq_bind,Option.bind_eq_some_iff] at hx
    obtain ⟨y0,h0,ys,⟨y1,h1,_⟩,_⟩:=hx
    obtain ⟨x,hx,ox⟩:=vI o0 (show DataW.trod enc MD.P W 0 (fun _=>true) true fuel 48 [c0]=some y0 from h0)
    obtain ⟨y,hy,oy⟩:=vI o1 (show DataW.trod enc MD.P W 0 (fun _=>true) true fuel 48 [c1]=some y1 from h1)
    refine ⟨x,y, .ag (vs:=[c0,c1]) (.cons hx (.cons hy .nil)) (fun v hv=> ?_)⟩
    simp only [List.mem_cons,List.not_mem_nil,or_false] at hv
    rcases hv with rfl|rfl
    · exact ox
    · exact oy
  · simp at hf
end
set_option maxRecDepth 100000 in
theorem contract (H:Type) (enc:TypeId×Value→H) (W:World) (base:Nat) (args:Array Value) (ds gs:List (DataW H)) (before:List MemPlace)
  (hval:∀(j:Nat) t v,Tryd.f6.params[j]? =some t→args[j]? =some v→Value.okWide Tryd.prog W .any base t v)
  (hW:DataW.Whole enc Tryd.prog Tryd.f6.params.toList Rows.transferSheetSpec.vars false W args.toList ds gs before):
  Calls Tryd.prog 6 args W fun e W'=>∃v,e= .returned v∧Rows.transferSheetSpec.post enc Tryd.prog Tryd.f6 false true false false W args v W':=by
 have zM:=hW
 obtain ⟨p,q,E9,hV,rfl,hfz,ve⟩:=hW
 have hA:DataW.TrodAll enc Tryd.prog W 0 (fun _=>true) true Tryd.f6.params.toList args.toList ds p:=E9
 rw [Tryd.params6] at hA hval
 obtain ⟨v0,v1,v2,d0,d1,d2,p0,p1,p2,rfl,rfl,rfl,h0,h1,h2⟩:=trodAll_three hA
 obtain ⟨rfl,rfl⟩:=trodVars_none hV
 obtain ⟨l,hl⟩:=FZ (hval 0 47 v0 rfl rfl) h0
 obtain ⟨g,rfl,rfl,rfl,wg⟩:=open_int Tryd.underlying3 (hval 1 3 v1 rfl rfl) h1
 obtain ⟨x,y,hxy⟩:=Ie (hval 2 49 v2 rfl rfl) h2
 clear E9
 simp only [List.append_nil] at zM
 have t0:∀x∈p0,x.block<W.heap.size:=fun x hx=>zM.lt x (by simp [hx])
 have t2:∀x∈p2,x.block<W.heap.size:=fun x hx=>zM.lt x (by simp [hx])
 refine (xS (Kn l g x y) W (B7 W) (fun _ _ h=>h) (vs:=[v0, .int .i64 g,v2]) (.cons hl (.cons (.lit rfl) (.cons hxy .nil)))).mono fun e W' ⟨he,hb⟩=> ?_
 subst he
 refine ⟨_,rfl,_,_,_,[],_,[],zM,trodAll_cons_mk (shut_bool Tryd.underlying4 _) trodAll_mk0,trodAll_mk3 (Below.trod lo Tp T6 h0 hb t0) (shut_int Tryd.underlying3 wg) (Below.trod lo Tq T7 h2 hb t2),rfl,hb.frame _,fun h=>by simp at h⟩
def yU:Array Value:= #[.slice none 0 0, .int .i64 0, .agg #[.slice none 0 0, .slice none 0 0]]
theorem reads (os:Os) {H:Type} (enc:TypeId×Value→H):∃ds places,DataW.whole enc Tryd.prog ((iQ os #[]).forCall (fun _ _=>0) ⟨#[],yU,[]⟩).memory Tryd.f6.params.toList Rows.transferSheetSpec.vars false yU.toList 8=some (ds,[],places):=
 ⟨[.nil, .lit (.int .i64 0), .agg [.nil, .nil]],[],by kernel_rfl⟩
theorem qc (os:Os):laidMet Tryd.prog Rows.transferSheetRow.laid ((iQ os #[]).forCall (fun _ _=>0) ⟨#[],yU,[]⟩).memory:=
 laidMet_of_run' 8 (by kernel_rfl) (by kernel_rfl)
set_option maxRecDepth 100000 in
theorem lifted (os:Os) (started:os.Started) (H:Type) (enc:TypeId×Value→H) (F:Stop.Interp):
  ReturnsInHanded {} Tryd.checked os 6 .any ((OpenSpec.ofChange Rows.transferSheetSpec).preRow enc Tryd.prog Tryd.f6 Rows.transferSheetRow.domain false Rows.transferSheetRow.laid) (((OpenSpec.ofChange Rows.transferSheetSpec).at F).post enc Tryd.prog Tryd.f6 false true false false):=by
 obtain ⟨ds,places,hx⟩:=reads os enc
 refine returnsInHanded_of_row (C:=Tryd.checked) (s:=OpenSpec.ofChange Rows.transferSheetSpec) ND started (by kernel_rfl) Tryd.func6
  (witness_row_at (enc:=enc) (C:=Tryd.checked) false (iQ os #[]) yU rfl (by kernel_rfl) (by kernel_rfl) (by kernel_rfl)
   (OpenSpec.preRow_of_cond 8 hx (by kernel_rfl) (fun k hk=>by cases hk) (by kernel_rfl) (qc os))) ?_
 intro W base args ds gs before hval hW _ _ _ hL _ _
 exact contract H enc W base args ds gs before hval hW
theorem said:Rows.TransferSheetSaid:=
 OpenClaim.holds_of_cond 6 Tryd.f6 rfl rfl rfl rfl rfl rfl rfl ⟨rfl,rfl,rfl,rfl,rfl⟩ rfl rfl rfl rfl rfl (by kernel_rfl) Tryd.func6 (by kernel_rfl)
  (of_decide_eq_true (by kernel_rfl)) (by unfold Func.isWrapper;first|(rw [if_pos (by decide+kernel)];kernel_rfl)|(rw [if_neg (by decide+kernel)];exact ⟨rfl,rfl⟩))
  (fun os started H enc _ F=>by rw [OpenClaim.pre_eq_preRow];exact lifted os started H enc F)
theorem plain (f:FuncId) (fn:Func) (hf:Tryd.pinned.checked.prog.funcNamed "culet/culetlaw50.TransferSheet" =some f) (hfn:Tryd.pinned.checked.prog.funcs[f]? =some fn):
  false=Tryd.pinned.checked.prog.looks []∧∀(j:Nat) t,fn.params[j]? =some t→Tryd.pinned.checked.prog.wantsStandIn t=false:=by
 obtain rfl:f=6:=Option.some.inj ((show Tryd.prog.funcNamed "culet/culetlaw50.TransferSheet" =some 6 by kernel_rfl).symm.trans hf)|>.symm
 obtain rfl:fn=Tryd.f6:=(Option.some.inj (Tryd.func6.symm.trans hfn)).symm
 refine ⟨by kernel_rfl,fun j t ht=> ?_⟩
 rw [Tryd.params6] at ht
 have hm:t=47∨t=3∨t=49:=by simpa using Array.mem_of_getElem? ht
 rcases hm with rfl|rfl|rfl
 · exact (show Tryd.prog.wantsStandIn 47=false by kernel_rfl)
 · exact (show Tryd.prog.wantsStandIn 3=false by kernel_rfl)
 · exact (show Tryd.prog.wantsStandIn 49=false by kernel_rfl)
theorem card:Rows.TransferSheetCardSaid:=
 Claim7.holds_tied_plain_at .later [] _ _ _ _ said (fun _ h=>by cases h) (by kernel_rfl) (fun _ h=>by cases h) transferSheet_row_tie rfl ⟨rfl,rfl⟩ (by kernel_rfl) rfl plain (by kernel_rfl)
end TransferSheet
end Go.Proofs.YtibbgjafjhcemaaDoor.Cul
