/- Part of a proof by an abstract machine for the program's code: lemmas, without conditions of their own beyond those that each states. -/
import Derived.Test.YtibbgjafjhcemaaDoorM15
import Derived.OrdersIn
import Derived.LoopNIn
import Derived.TacticsIn
import Derived.OwnWalkIn
import Derived.RangeFuncCalls
set_option linter.unusedVariables false
set_option linter.unusedSimpArgs false
namespace Go.Proofs.YtibbgjafjhcemaaDoor.Cul
open Go Go.RowKit
/-- What stays put: own variables' blocks; the deferred calls. -/
structure Pins where
  k : Nat → Option Nat
  ds : Option (List Deferred)
section
variable {P : Program} {base : Nat} {w : World} {Pr : Prot} {bk : Key → Nat} {st : St} {a : Act} {N : Nat} {pin : Pins}
theorem effect_ok (I : Inv base w Pr bk st a N) {o : Oper} {st' : St} (hN : ∀ d, o.dst = some d → d < N) (h : effect P o st = some st') : EOk P base w Pr bk st a N o st' := by
  cases ho : o.op with
  | assign x => exact eok_assign I ho hN h
  | alloc t => exact eok_alloc I ho hN h
  | box t x => exact eok_box I ho hN h
  | store t x y => exact eok_store I ho h
  | makeSlice t l c => exact eok_makeSlice I ho hN h
  | call c =>
    obtain ⟨callee, args, ts⟩ := c
    cases callee with
    | value g => simp [effect, ho] at h
    | builtin b =>
      cases b with
      | append => exact eok_append I ho hN h
      | _ => simp [effect, ho] at h
    | invoke r n => simp [effect, ho] at h
  | _ => simp [effect, ho] at h
theorem put_none (a : Act) (v : Value) : a.put none v = a := rfl
theorem eok_quiet (I : Inv base w Pr bk st a N) {o : Oper} {m : Made} (hN : ∀ d, o.dst = some d → d < N) (h : QOk P base w Pr bk st a o m) : EOk P base w Pr bk st a N o (st.made o.dst m) := by
  intro K Q hK
  refine h K Q fun v w' Pr' hf hm => ?_
  have I2 := I.fw hf
  cases hd : o.dst with
  | none => exact hK a w' Pr' bk (by rw [hd]; exact I2) (hf.bel.mono I.hb) (hf.kp I.prot) (fun b o hb h => hf.old b o (Nat.lt_of_lt_of_le hb I.hb) h) hf.ko (fun _ _ => rfl) rfl
  | some d =>
    obtain ⟨bk', hI, hbk⟩ := I2.made0 (hN d hd) hm
    exact hK _ w' Pr' bk' (by rw [hd]; exact hI) (hf.bel.mono I.hb) (hf.kp I.prot) (fun b o hb h => hf.old b o (Nat.lt_of_lt_of_le hb I.hb) h) hf.ko (fun k _ => hbk k) rfl
theorem aop_ok {call : Nat → List PV → Option RV} (hC : CallOk P call) (I : Inv base w Pr bk st a N) {o : Oper} {st' : St} (hN : ∀ d, o.dst = some d → d < N) (h : aop P call o st = some st') : EOk P base w Pr bk st a N o st' := by
  unfold aop at h
  split at h
  · simp only [Option.map_eq_some_iff] at h
    obtain ⟨m, hm, rfl⟩ := h
    exact eok_quiet I hN (quiet_ok hC I hm)
  · exact effect_ok I hN h

/-! ### In a round of a loop over a function as elsewhere -/
/-- A fence that lets every call by. -/
structure Easy (F : Fence) : Prop where
  fn : ∀ f, F.fn f
  depth : F.depth = none
  calls : ∀ (n : Nat) (P : Program) (f : FuncId) (args : Array Value) (w : World) (R : Ending → World → Prop), Calls P f args w R → CallsIn F n P f args w R
  rows : ∀ (n : Nat) (P : Program) (row : String) (args : Array Value) (w : World) (R : Value → World → Prop), Rows P row args w R → RowsIn F n P row args w R
theorem rowsIn_of_rows {n : Nat} {row : String} {args : Array Value} {R : Value → World → Prop} (h : Rows P row args w R) : RowsIn Fence.wide n P row args w R :=
  fun c cs _ => let ⟨v, w', r, s⟩ := h c cs; ⟨v, w', r, stepsIn_wide.2 s⟩
theorem easy_wide : Easy Fence.wide := ⟨fun _ => trivial, rfl, fun _ _ _ _ _ _ h => callsIn_wide.2 h, fun _ _ _ _ _ _ h => rowsIn_of_rows h⟩
theorem easy_round (l : Nat) : Easy (Fence.wide.inRound l) := ⟨fun _ => trivial, rfl, fun _ _ _ _ _ _ h => CallsIn.inRound l (callsIn_wide.2 h), fun _ _ _ _ _ _ h => rowsIn_of_rows h⟩
theorem oper_in {F : Fence} (E : Easy F) {n : Nat} {o : Oper} (hnd : ∀ c, o.op ≠ .defer c) {K : Act → World → Prop} {Q : Exit → Act → World → Prop} (h : o.wp P a w K Q) : o.wpIn F n P a w K Q := by
  refine ⟨fun f _ => E.fn f, ?_⟩
  rw [Oper.semAt_plain F _ _ hnd]
  unfold Oper.wp at h
  generalize (execOp a.eval o).run P w = r at h
  have hd : F.depth.isSome = true → 1 ≤ n := fun h => by rw [E.depth] at h; simp at h
  cases r with
  | ok x w' =>
    cases x with
    | value v => exact h
    | skip => exact h
    | defer d => exact h
    | enter f args => exact ⟨hd, E.calls _ _ _ _ _ _ h⟩
    | row r args => exact ⟨hd, E.rows _ _ _ _ _ _ h⟩
    | _ => exact h.elim
  | halt x w' => cases x <;> first | exact h | exact h.elim
theorem aop_notDefer {call : Nat → List PV → Option RV} {o : Oper} {s : St} (h : aop P call o st = some s) : ∀ c, o.op ≠ .defer c := by
  intro c ho
  simp [aop, ho, isQuiet, effect] at h
/-- The frame in some memory behind the entry's. -/
def Good (base : Nat) (w0 : World) (Pr0 : Prot) (N : Nat) (pin : Pins) (st : St) (a : Act) (w : World) : Prop :=
  ∃ Pr bk, Inv base w Pr bk st a N ∧ Below base w0 w ∧ (∀ b o, b < base → Pr b o → Pr0 b o) ∧ KeepsOthers w0 w ∧ (∀ k b, pin.k k = some b → bk (.bx k) = b) ∧ (∀ b o v, Pr0 b o → w0.cell? ⟨b, o, none⟩ = some v → Pr b o ∧ w.cell? ⟨b, o, none⟩ = some v) ∧ ∀ ds, pin.ds = some ds → a.defers = ds
theorem Good.step {w0 : World} {Pr0 : Prot} {st' : St} (hG : Below base w0 w ∧ (∀ b o, b < base → Pr b o → Pr0 b o) ∧ KeepsOthers w0 w ∧ (∀ k b, pin.k k = some b → bk (.bx k) = b) ∧ (∀ b o v, Pr0 b o → w0.cell? ⟨b, o, none⟩ = some v → Pr b o ∧ w.cell? ⟨b, o, none⟩ = some v) ∧ ∀ ds, pin.ds = some ds → a.defers = ds) {o : Oper} (hpn : ∀ d, o.dst = some d → pin.k d = none) (h : EOk P base w Pr bk st a N o st') {Q : Exit → Act → World → Prop} {K : Act → World → Prop}
    (hK : ∀ a' w', Good base w0 Pr0 N pin st' a' w' → K a' w') : o.wp P a w K Q :=
  h K Q fun a' w' Pr' bk' hI hb hk hp ho hbk hdf => hK a' w' ⟨Pr', bk', hI, hG.1.trans hb, fun b o hlt h => hG.2.1 b o hlt (hp b o hlt h), hG.2.2.1.trans ho, ⟨fun k b e => (hbk k (fun e2 => by rw [hpn k e2] at e; simp at e)).trans (hG.2.2.2.1 k b e), fun b o v h1 h2 => by
    obtain ⟨h3, h4⟩ := hG.2.2.2.2.1 b o v h1 h2
    exact ⟨hk.pr b o h3, (hk.cell b o h3).trans h4⟩, fun ds e => hdf.trans (hG.2.2.2.2.2 ds e)⟩⟩
theorem Good.less {w0 : World} {Pr0 : Prot} {st' : St} (h : Good base w0 Pr0 N pin st a w) (k : ∀ Pr bk, Inv base w Pr bk st a N → Inv base w Pr bk st' a N) : Good base w0 Pr0 N pin st' a w := by
  obtain ⟨Pr, bk, I, h1⟩ := h
  exact ⟨Pr, bk, k Pr bk I, h1⟩
theorem wanted_eq (I : Inv base w Pr bk st a N) {ops : Array Oper} {o : Oper} {b : Bool} (h : aWanted ops.toList o st = some b) : Region.wanted o (yielded ops a.tmps) = b := by
  unfold aWanted at h
  unfold Region.wanted
  cases hg : o.guard with
  | none => rw [hg] at h; simpa using h
  | some g =>
    obtain ⟨j, want⟩ := g
    simp only [hg, Option.bind_eq_some_iff] at h
    obtain ⟨t, ⟨oj, hj, hd⟩, h⟩ := h
    have hj' : ops[j]? = some oj := by simpa using hj
    simp only [yielded, hj', Option.bind_some, hd]
    split at h
    · rename_i c hl
      obtain ⟨v, hv, hr⟩ := I.slots t _ hl
      cases hr
      simp only [hv]
      simp only [Option.some.injEq] at h
      subst h
      cases c <;> cases want <;> rfl
    · rename_i hl
      obtain ⟨v, hv, hr⟩ := I.slots t _ hl
      cases hr with
      | tup hr =>
        simp only [hv]
        simp only [Option.some.injEq] at h
        subst h; rfl
    · simp at h
theorem skip_ok (I : Inv base w Pr bk st a N) {o : Oper} (hN : ∀ d, o.dst = some d → d < N) : ∃ bk', Inv base w Pr bk' (st.put o.dst undefA) (a.put o.dst undef) N ∧ ∀ k, bk' (.bx k) = bk (.bx k) := by
  cases hd : o.dst with
  | none => exact ⟨bk, I, fun _ => rfl⟩
  | some d =>
    rw [made_put]
    exact I.made0 (hN d hd) (madeOk_pv (Rp.tup .nil))
theorem aops_ok {F : Fence} (E : Easy F) (n : Nat) {call : Nat → List PV → Option RV} (hC : CallOk P call) {w0 : World} {Pr0 : Prot} {ops : Array Oper} {Q : Exit → Act → World → Prop} {st' : St} (hQ : ∀ a' w', Good base w0 Pr0 N pin st' a' w' → Q .normal a' w') :
    ∀ (l : List Oper) (st : St) (a : Act) (w : World), (∀ o ∈ l, ∀ d, o.dst = some d → d < N ∧ pin.k d = none) → Good base w0 Pr0 N pin st a w → aops (aop P call) ops.toList l st = some st' → wpListIn F n P ops Q l a w
  | [], st, a, w, hN, hG, h => by
    simp only [aops, Option.some.injEq] at h; subst h
    exact hQ a w hG
  | o :: l, st, a, w, hN, hG, h => by
    obtain ⟨Pr, bk, I, hG2⟩ := hG
    simp only [aops, Option.bind_eq_some_iff] at h
    obtain ⟨b, hb, h⟩ := h
    have hw := wanted_eq (ops := ops) I hb
    refine wpListIn_step fun K hK => ?_
    cases b with
    | true =>
      simp only [Option.bind_eq_some_iff] at h
      obtain ⟨s1, hs1, h⟩ := h
      rw [if_pos hw]
      exact oper_in E (aop_notDefer hs1) (Good.step hG2 (fun d hd => (hN o (by simp) d hd).2) (aop_ok hC I (fun d hd => (hN o (by simp) d hd).1) hs1) fun a' w' hG' => hK a' w' (aops_ok E n hC hQ l s1 a' w' (fun o' ho' => hN o' (List.mem_cons_of_mem _ ho')) hG' h))
    | false =>
      simp only at h
      rw [if_neg (by rw [hw]; simp)]
      obtain ⟨bk', I', hbk⟩ := skip_ok I (fun d hd => (hN o (by simp) d hd).1)
      exact ⟨fun f _ => E.fn f, hK _ _ (aops_ok E n hC hQ l _ _ _ (fun o' ho' => hN o' (List.mem_cons_of_mem _ ho')) ⟨Pr, bk', I', hG2.1, hG2.2.1, hG2.2.2.1, fun k b e => (hbk k).trans (hG2.2.2.2.1 k b e), hG2.2.2.2.2.1, fun ds e => by
        have := hG2.2.2.2.2.2 ds e
        rw [← this]; cases o.dst <;> rfl⟩ h)⟩
end
end Go.Proofs.YtibbgjafjhcemaaDoor.Cul
