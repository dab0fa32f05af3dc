/- Proved: for any setting and plane, culetlaw50.TransferSettings returns true and leaves its arguments as_ they were; the conditions are those of the given card (the package-level tables unicode/utf8.acceptRanges and unicode/utf8.first hold what the program's text lays). -/
import Derived.Test.YtibbgjafjhcemaaDoorRTSG6
set_option linter.unusedVariables false
namespace Go.Proofs.YtibbgjafjhcemaaDoor.Cul
open Go Go.RowKit Go.ChangeShapes Go.WideShapes Go.ChangeAt
open Go.Proofs Go.Proofs.YtibbgjafjhcemaaDoor
namespace TransferSettings
set_option maxRecDepth 100000 in
theorem contract (H:Type) (enc:TypeId×Value→H) (W:World) (base:Nat) (args:Array Value) (ds gs:List (DataW H)) (before:List MemPlace)
  (hval:∀(j:Nat) t v,Tryd.f7.params[j]? =some t→args[j]? =some v→Value.okWide Tryd.prog W .any base t v)
  (hW:DataW.Whole enc Tryd.prog Tryd.f7.params.toList Rows.transferSettingsSpec.vars false W args.toList ds gs before):
  Calls Tryd.prog 7 args W fun e W'=>∃v,e= .returned v∧Rows.transferSettingsSpec.post enc Tryd.prog Tryd.f7 false true false false W args v W':=by
 have E9:=hW
 obtain ⟨p,q,E8,hV,rfl,hfz,rD⟩:=hW
 have hA:DataW.TrodAll enc Tryd.prog W 0 (fun _=>true) true Tryd.f7.params.toList args.toList ds p:=E8
 rw [Tryd.params7] at hA hval
 obtain ⟨v0,v1,d0,d1,p0,p1,rfl,rfl,rfl,h0,h1⟩:=trodAll_two hA
 obtain ⟨rfl,rfl⟩:=trodVars_none hV
 obtain ⟨⟨c1,rfl,pl,hp⟩,rfl,k1⟩:=Tg.open PG (hval 1 34 v1 rfl rfl) h1
 obtain ⟨⟨c0,rfl,s,hs⟩,rfl,k0⟩:=Th.open PI (hval 0 36 v0 rfl rfl) h0
 have e1:c1=pl.vals.toArray:=by rw [←hp]
 have e0:c0=s.vals.toArray:=by rw [←hs]
 subst e0 e1
 clear E8
 simp only [List.append_nil] at E9
 refine (xV (BK (D3 F0) s pl) W (fun _ _=>False) (fun _ _ h=>h.elim) (vs:=[.agg s.vals.toArray, .agg pl.vals.toArray]) (.cons (Oz _ _ s) (.cons (Oy _ _ pl) .nil))).mono fun e W' ⟨he,hb⟩=> ?_
 subst he
 refine ⟨_,rfl,_,_,_,[],[],[],E9,trodAll_cons_mk (shut_bool Tryd.underlying4 _) trodAll_mk0,trodAll_mk2 (k0 _ _ _ _) (k1 _ _ _ _),rfl,hb.frame _,fun h=>by simp at h⟩
def y6:Array Value:= #[.agg aY.zero.vals.toArray, .agg bF.zero.vals.toArray]
theorem reads (os:Os) {H:Type} (enc:TypeId×Value→H):∃ds places,DataW.whole enc Tryd.prog ((iN os #[]).forCall (fun _ _=>0) ⟨#[],y6,[]⟩).memory Tryd.f7.params.toList Rows.transferSettingsSpec.vars false y6.toList 8=some (ds,[],places):=
 ⟨[dS H,dP H],[],by kernel_rfl⟩
theorem pV (os:Os):laidMet Tryd.prog Rows.transferSettingsRow.laid ((iN os #[]).forCall (fun _ _=>0) ⟨#[],y6,[]⟩).memory:=
 laidMet_of_run' 8 (by kernel_rfl) (by kernel_rfl)
set_option maxRecDepth 100000 in
theorem lifted (os:Os) (started:os.Started) (H:Type) (enc:TypeId×Value→H) (F:Stop.Interp):
  ReturnsInHanded {} Tryd.checked os 7 .any ((OpenSpec.ofChange Rows.transferSettingsSpec).preRow enc Tryd.prog Tryd.f7 Rows.transferSettingsRow.domain false Rows.transferSettingsRow.laid) (((OpenSpec.ofChange Rows.transferSettingsSpec).at F).post enc Tryd.prog Tryd.f7 false true false false):=by
 obtain ⟨ds,places,hx⟩:=reads os enc
 refine returnsInHanded_of_row (C:=Tryd.checked) (s:=OpenSpec.ofChange Rows.transferSettingsSpec) Ob started (by kernel_rfl) Tryd.func7
  (witness_row_at (enc:=enc) (C:=Tryd.checked) false (iN os #[]) y6 rfl (by kernel_rfl) (by kernel_rfl) (by kernel_rfl)
   (OpenSpec.preRow_of_cond 8 hx (by kernel_rfl) (fun k hk=>by cases hk) (by kernel_rfl) (pV os))) ?_
 intro W base args ds gs before hval hW _ _ _ hL _ _
 exact contract H enc W base args ds gs before hval hW
theorem said:Rows.TransferSettingsSaid:=
 OpenClaim.holds_of_cond 7 Tryd.f7 rfl rfl rfl rfl rfl rfl rfl ⟨rfl,rfl,rfl,rfl,rfl⟩ rfl rfl rfl rfl rfl (by kernel_rfl) Tryd.func7 (by kernel_rfl)
  (of_decide_eq_true (by kernel_rfl)) (by unfold Func.isWrapper;first|(rw [if_pos (by decide+kernel)];kernel_rfl)|(rw [if_neg (by decide+kernel)];exact ⟨rfl,rfl⟩))
  (fun os started H enc _ F=>by rw [OpenClaim.pre_eq_preRow];exact lifted os started H enc F)
theorem plain (f:FuncId) (fn:Func) (hf:Tryd.pinned.checked.prog.funcNamed "culet/culetlaw50.TransferSettings" =some f) (hfn:Tryd.pinned.checked.prog.funcs[f]? =some fn):
  false=Tryd.pinned.checked.prog.looks []∧∀(j:Nat) t,fn.params[j]? =some t→Tryd.pinned.checked.prog.wantsStandIn t=false:=by
 obtain rfl:f=7:=Option.some.inj ((show Tryd.prog.funcNamed "culet/culetlaw50.TransferSettings" =some 7 by kernel_rfl).symm.trans hf)|>.symm
 obtain rfl:fn=Tryd.f7:=(Option.some.inj (Tryd.func7.symm.trans hfn)).symm
 refine ⟨by kernel_rfl,fun j t ht=> ?_⟩
 rw [Tryd.params7] at ht
 have hm:t=36∨t=34:=by simpa using Array.mem_of_getElem? ht
 rcases hm with rfl|rfl
 · exact (show Tryd.prog.wantsStandIn 36=false by kernel_rfl)
 · exact (show Tryd.prog.wantsStandIn 34=false by kernel_rfl)
theorem card:Rows.TransferSettingsCardSaid:=
 Claim7.holds_tied_plain_at .later [] _ _ _ _ said (fun _ h=>by cases h) (by kernel_rfl) (fun _ h=>by cases h) transferSettings_row_tie rfl ⟨rfl,rfl⟩ (by kernel_rfl) rfl plain (by kernel_rfl)
end TransferSettings
end Go.Proofs.YtibbgjafjhcemaaDoor.Cul
