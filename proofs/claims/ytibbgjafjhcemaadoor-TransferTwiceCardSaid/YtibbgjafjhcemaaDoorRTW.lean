/- Proved: for any vector, plane and setting, culetlaw50.TransferTwice returns true and leaves its arguments as_ they were; the conditions are those of the given card (the package-level tables unicode/utf8.acceptRanges and unicode/utf8.first hold what the program's text lays). -/
import Derived.Test.YtibbgjafjhcemaaDoorRFOG6
set_option linter.unusedVariables false
namespace Go.Proofs.YtibbgjafjhcemaaDoor.Cul
open Go Go.RowKit Go.ChangeShapes Go.WideShapes Go.ChangeAt
open Go.Proofs Go.Proofs.YtibbgjafjhcemaaDoor
namespace TransferTwice
set_option maxRecDepth 100000 in
theorem contract (H : Type) (enc : TypeId × Value → H) (W : World) (base : Nat) (args : Array Value) (ds gs : List (DataW H)) (before : List MemPlace)
    (hval : ∀ (j : Nat) t v, Tryd.f5.params[j]? = some t → args[j]? = some v → Value.okWide Tryd.prog W .any base t v)
    (hW : DataW.Whole enc Tryd.prog Tryd.f5.params.toList Rows.transferTwiceSpec.vars false W args.toList ds gs before) :
    Calls Tryd.prog 5 args W fun e W' => ∃ v, e = .returned v ∧ Rows.transferTwiceSpec.post enc Tryd.prog Tryd.f5 false true false false W args v W' := by
  have hW' := hW
  obtain ⟨p, q, hA0, hV, rfl, hfz, hnd⟩ := hW
  have hA : DataW.TrodAll enc Tryd.prog W 0 (fun _ => true) true Tryd.f5.params.toList args.toList ds p := hA0
  rw [Tryd.params5] at hA hval
  obtain ⟨v0, v1, v2, d0, d1, d2, p0, p1, p2, rfl, rfl, rfl, h0, h1, h2⟩ := trodAll_three hA
  obtain ⟨rfl, rfl⟩ := trodVars_none hV
  obtain ⟨⟨c0, rfl, v, hv⟩, rfl, k0⟩ := pt32.open row32 (hval 0 32 v0 rfl rfl) h0
  obtain ⟨⟨c1, rfl, pl, hp⟩, rfl, k1⟩ := pt34.open row34 (hval 1 34 v1 rfl rfl) h1
  obtain ⟨⟨c2, rfl, s, hs⟩, rfl, k2⟩ := pt36.open row36 (hval 2 36 v2 rfl rfl) h2
  have e0 : c0 = v.vals.toArray := by rw [← hv]
  have e1 : c1 = pl.vals.toArray := by rw [← hp]
  have e2 : c2 = s.vals.toArray := by rw [← hs]
  subst e0 e1 e2
  clear hA0
  simp only [List.append_nil] at hW'
  refine (law_calls (twice_is v pl s) W (fun _ _ => False) (fun _ _ h => h.elim) (vs := [.agg v.vals.toArray, .agg pl.vals.toArray, .agg s.vals.toArray]) (.cons (rp_vec _ _ v) (.cons (rp_pln _ _ pl) (.cons (rp_stg _ _ s) .nil)))).mono fun e W' ⟨he, hb⟩ => ?_
  subst he
  refine ⟨_, rfl, _, _, _, [], [], [], hW', trodAll_cons_mk (shut_bool Tryd.underlying4 _) trodAll_mk0, trodAll_mk3 (k0 _ _ _ _) (k1 _ _ _ _) (k2 _ _ _ _), rfl, hb.frame _, fun h => by simp at h⟩
def wargs : Array Value := #[.agg Vec.zero.vals.toArray, .agg Pln.zero.vals.toArray, .agg Stg.zero.vals.toArray]
theorem reads (os : Os) {H : Type} (enc : TypeId × Value → H) : ∃ ds places, DataW.whole enc Tryd.prog ((laidWorld os #[]).forCall (fun _ _ => 0) ⟨#[], wargs, []⟩).memory Tryd.f5.params.toList Rows.transferTwiceSpec.vars false wargs.toList 8 = some (ds, [], places) :=
  ⟨[dV H, dP H, dS H], [], by kernel_rfl⟩
theorem laid_met (os : Os) : laidMet Tryd.prog Rows.transferTwiceRow.laid ((laidWorld os #[]).forCall (fun _ _ => 0) ⟨#[], wargs, []⟩).memory :=
  laidMet_of_run' 8 (by kernel_rfl) (by kernel_rfl)
set_option maxRecDepth 100000 in
theorem lifted (os : Os) (started : os.Started) (H : Type) (enc : TypeId × Value → H) (F : Stop.Interp) :
    ReturnsInHanded {} Tryd.checked os 5 .any ((OpenSpec.ofChange Rows.transferTwiceSpec).preRow enc Tryd.prog Tryd.f5 Rows.transferTwiceRow.domain false Rows.transferTwiceRow.laid) (((OpenSpec.ofChange Rows.transferTwiceSpec).at F).post enc Tryd.prog Tryd.f5 false true false false) := by
  obtain ⟨ds, places, hx⟩ := reads os enc
  refine returnsInHanded_of_row (C := Tryd.checked) (s := OpenSpec.ofChange Rows.transferTwiceSpec) ownK started (by kernel_rfl) Tryd.func5
    (witness_row_at (enc := enc) (C := Tryd.checked) false (laidWorld os #[]) wargs rfl (by kernel_rfl) (by kernel_rfl) (by kernel_rfl)
      (OpenSpec.preRow_of_cond 8 hx (by kernel_rfl) (fun k hk => by cases hk) (by kernel_rfl) (laid_met os))) ?_
  intro W base args ds gs before hval hW _ _ _ hL _ _
  exact contract H enc W base args ds gs before hval hW
theorem said : Rows.TransferTwiceSaid :=
  OpenClaim.holds_of_cond 5 Tryd.f5 rfl rfl rfl rfl rfl rfl rfl ⟨rfl, rfl, rfl, rfl, rfl⟩ rfl rfl rfl rfl rfl (by kernel_rfl) Tryd.func5 (by kernel_rfl)
    (of_decide_eq_true (by kernel_rfl)) (by unfold Func.isWrapper; first | (rw [if_pos (by decide +kernel)]; kernel_rfl) | (rw [if_neg (by decide +kernel)]; exact ⟨rfl, rfl⟩))
    (fun os started H enc _ F => by rw [OpenClaim.pre_eq_preRow]; exact lifted os started H enc F)
theorem plain (f : FuncId) (fn : Func) (hf : Tryd.pinned.checked.prog.funcNamed "culet/culetlaw50.TransferTwice" = some f) (hfn : Tryd.pinned.checked.prog.funcs[f]? = some fn) :
    false = Tryd.pinned.checked.prog.looks [] ∧ ∀ (j : Nat) t, fn.params[j]? = some t → Tryd.pinned.checked.prog.wantsStandIn t = false := by
  obtain rfl : f = 5 := Option.some.inj ((show Tryd.prog.funcNamed "culet/culetlaw50.TransferTwice" = some 5 by kernel_rfl).symm.trans hf) |>.symm
  obtain rfl : fn = Tryd.f5 := (Option.some.inj (Tryd.func5.symm.trans hfn)).symm
  refine ⟨by kernel_rfl, fun j t ht => ?_⟩
  rw [Tryd.params5] at ht
  have hm : t = 32 ∨ t = 34 ∨ t = 36 := by simpa using Array.mem_of_getElem? ht
  rcases hm with rfl | rfl | rfl
  · exact (show Tryd.prog.wantsStandIn 32 = false by kernel_rfl)
  · exact (show Tryd.prog.wantsStandIn 34 = false by kernel_rfl)
  · exact (show Tryd.prog.wantsStandIn 36 = false by kernel_rfl)
theorem card : Rows.TransferTwiceCardSaid :=
  Claim7.holds_tied_plain_at .later [] _ _ _ _ said (fun _ h => by cases h) (by kernel_rfl) (fun _ h => by cases h) transferTwice_row_tie rfl ⟨rfl, rfl⟩ (by kernel_rfl) rfl plain (by kernel_rfl)
end TransferTwice
end Go.Proofs.YtibbgjafjhcemaaDoor.Cul
