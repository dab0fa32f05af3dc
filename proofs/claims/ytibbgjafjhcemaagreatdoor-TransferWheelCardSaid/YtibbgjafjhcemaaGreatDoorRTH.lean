/- Proved: for any vector and any 16-bit position, culetlaw50.TransferWheel returns true and leaves its arguments as_ they were; the conditions are those of the given card (the package-level tables unicode/utf8.acceptRanges and unicode/utf8.first hold what the program's text lays). -/
import Derived.Test.YtibbgjafjhcemaaGreatDoorRTHG6
set_option linter.unusedVariables false
namespace Go.Proofs.YtibbgjafjhcemaaGreatDoor.Cul
open Go Go.RowKit Go.ChangeShapes Go.WideShapes Go.ChangeAt
open Go.Proofs Go.Proofs.YtibbgjafjhcemaaGreatDoor
namespace TransferWheel
set_option maxRecDepth 100000 in
theorem contract (H:Type) (enc:TypeId×Value→H) (W:World) (base:Nat) (args:Array Value) (ds gs:List (DataW H)) (before:List MemPlace)
  (hval:∀(j:Nat) t v,Tryz.f3.params[j]? =some t→args[j]? =some v→Value.okWide Tryz.prog W .any base t v)
  (hW:DataW.Whole enc Tryz.prog Tryz.f3.params.toList Rows.transferWheelSpec.vars false W args.toList ds gs before):
  Calls Tryz.prog 3 args W fun e W'=>∃v,e= .returned v∧Rows.transferWheelSpec.post enc Tryz.prog Tryz.f3 false true false false W args v W':=by
 have O4:=hW
 obtain ⟨p,q,O0,hV,rfl,hfz,sU⟩:=hW
 have hA:DataW.TrodAll enc Tryz.prog W 0 (fun _=>true) true Tryz.f3.params.toList args.toList ds p:=O0
 rw [Tryz.params3] at hA hval
 obtain ⟨v0,v1,d0,d1,p0,p1,rfl,rfl,rfl,h0,h1⟩:=trodAll_two hA
 obtain ⟨rfl,rfl⟩:=trodVars_none hV
 obtain ⟨i,rfl,rfl,rfl,wi⟩:=open_int Tryz.underlying29 (hval 1 29 v1 rfl rfl) h1
 obtain ⟨⟨c0,rfl,v,hv⟩,rfl,k0⟩:=RE.open Oy (hval 0 28 v0 rfl rfl) h0
 have e0:c0=v.vals.toArray:=by rw [←hv]
 subst e0
 have ri: -32768≤i∧i≤32767:=by
  have h:=wi
  unfold Lit.wf at h
  rw [Bool.and_eq_true] at h
  have e1:IntKind.i16.min= -32768:=by decide
  have e2:IntKind.i16.max=32767:=by decide
  rw [e1,e2] at h
  exact ⟨of_decide_eq_true h.1,of_decide_eq_true h.2⟩
 clear O0
 simp only [List.append_nil] at O4
 refine (E4 (IC v i ri.1 ri.2) W (fun _ _=>False) (fun _ _ h=>h.elim) (vs:=[.agg v.vals.toArray, .int .i16 i]) (.cons (Nu _ _ v) (.cons (.lit rfl) .nil))).mono fun e W' ⟨he,hb⟩=> ?_
 subst he
 refine ⟨_,rfl,_,_,_,[],[],[],O4,trodAll_cons_mk (shut_bool Tryz.underlying4 _) trodAll_mk0,trodAll_mk2 (k0 _ _ _ _) (shut_int Tryz.underlying29 wi),rfl,hb.frame _,fun h=>by simp at h⟩
def yC:Array Value:= #[.agg aP.zero.vals.toArray, .int .i16 0]
theorem reads (os:Os) {H:Type} (enc:TypeId×Value→H):∃ds places,DataW.whole enc Tryz.prog ((nL os #[]).forCall (fun _ _=>0) ⟨#[],yC,[]⟩).memory Tryz.f3.params.toList Rows.transferWheelSpec.vars false yC.toList 8=some (ds,[],places):=
 ⟨[dV H, .lit (.int .i16 0)],[],by kernel_rfl⟩
theorem zR (os:Os):laidMet Tryz.prog Rows.transferWheelRow.laid ((nL os #[]).forCall (fun _ _=>0) ⟨#[],yC,[]⟩).memory:=
 laidMet_of_run' 8 (by kernel_rfl) (by kernel_rfl)
set_option maxRecDepth 100000 in
theorem lifted (os:Os) (started:os.Started) (H:Type) (enc:TypeId×Value→H) (F:Stop.Interp):
  ReturnsInHanded {} Tryz.checked os 3 .any ((OpenSpec.ofChange Rows.transferWheelSpec).preRow enc Tryz.prog Tryz.f3 Rows.transferWheelRow.domain false Rows.transferWheelRow.laid) (((OpenSpec.ofChange Rows.transferWheelSpec).at F).post enc Tryz.prog Tryz.f3 false true false false):=by
 obtain ⟨ds,places,hx⟩:=reads os enc
 refine returnsInHanded_of_row (C:=Tryz.checked) (s:=OpenSpec.ofChange Rows.transferWheelSpec) Rx started (by kernel_rfl) Tryz.func3
  (witness_row_at (enc:=enc) (C:=Tryz.checked) false (nL os #[]) yC rfl (by kernel_rfl) (by kernel_rfl) (by kernel_rfl)
   (OpenSpec.preRow_of_cond 8 hx (by kernel_rfl) (fun k hk=>by cases hk) (by kernel_rfl) (zR os))) ?_
 intro W base args ds gs before hval hW _ _ _ hL _ _
 exact contract H enc W base args ds gs before hval hW
theorem said:Rows.TransferWheelSaid:=
 OpenClaim.holds_of_cond 3 Tryz.f3 rfl rfl rfl rfl rfl rfl rfl ⟨rfl,rfl,rfl,rfl,rfl⟩ rfl rfl rfl rfl rfl (by kernel_rfl) Tryz.func3 (by kernel_rfl)
  (of_decide_eq_true (by kernel_rfl)) (by unfold Func.isWrapper;first|(rw [if_pos (by decide+kernel)];kernel_rfl)|(rw [if_neg (by decide+kernel)];exact ⟨rfl,rfl⟩))
  (fun os started H enc _ F=>by rw [OpenClaim.pre_eq_preRow];exact lifted os started H enc F)
theorem plain (f:FuncId) (fn:Func) (hf:Tryz.pinned.checked.prog.funcNamed "culet/culetlaw50.TransferWheel" =some f) (hfn:Tryz.pinned.checked.prog.funcs[f]? =some fn):
  false=Tryz.pinned.checked.prog.looks []∧∀(j:Nat) t,fn.params[j]? =some t→Tryz.pinned.checked.prog.wantsStandIn t=false:=by
 obtain rfl:f=3:=Option.some.inj ((show Tryz.prog.funcNamed "culet/culetlaw50.TransferWheel" =some 3 by kernel_rfl).symm.trans hf)|>.symm
 obtain rfl:fn=Tryz.f3:=(Option.some.inj (Tryz.func3.symm.trans hfn)).symm
 refine ⟨by kernel_rfl,fun j t ht=> ?_⟩
 rw [Tryz.params3] at ht
 have hm:t=28∨t=29:=by simpa using Array.mem_of_getElem? ht
 rcases hm with rfl|rfl
 · exact (show Tryz.prog.wantsStandIn 28=false by kernel_rfl)
 · exact (show Tryz.prog.wantsStandIn 29=false by kernel_rfl)
theorem card:Rows.TransferWheelCardSaid:=
 Claim7.holds_tied_plain_at .later [] _ _ _ _ said (fun _ h=>by cases h) (by kernel_rfl) (fun _ h=>by cases h) transferWheel_row_tie rfl ⟨rfl,rfl⟩ (by kernel_rfl) rfl plain (by kernel_rfl)
end TransferWheel
end Go.Proofs.YtibbgjafjhcemaaGreatDoor.Cul
