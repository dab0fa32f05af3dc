/- Part of a proof by an abstract machine for the program's code: lemmas, without conditions of their own beyond those that each states. -/
import Derived.Test.YtibbgjafjhcemaaDoorM4
set_option linter.unusedVariables false
set_option linter.unusedSimpArgs false
namespace Go.Proofs.YtibbgjafjhcemaaDoor.Cul
open Go Go.RowKit

structure RetOk (w : World) (Pr : Prot) (w' : World) (Pr' : Prot) (r : RV) (v : Value) : Prop where
  fw : Fw w Pr w' Pr'
  rp : Rp w' Pr' r.v v
  gr : ∀ z, r.gr = some z → ∃ b o n cap cs, r.v = .sl z n cs ∧ v = .slice (some ⟨b, o, none⟩) n cap ∧ Room w' Pr' b o n cap z ∧ w.heap.size ≤ b ∧ b < w'.heap.size
/-- The function has a Go text. -/
def HasBody (P : Program) (f : Nat) : Prop := ∃ fn c, P.funcs[f]? = some fn ∧ fn.body = some c ∧ (fn.name == "runtime.NumGoroutine") = false
/-- What the machine answers for a call is what the call does. -/
def CallOk (P : Program) (call : Nat → List PV → Option RV) : Prop :=
  ∀ f args r, call f args = some r → HasBody P f ∧ ∀ (vs : List Value) (w : World) (Pr : Prot), (∀ b o, Pr b o → b < w.heap.size) → RpL w Pr args vs →
    Calls P f vs.toArray w (fun e w' => ∃ v Pr', e = .returned v ∧ RetOk w Pr w' Pr' r v)

section
variable {P : Program} {base : Nat} {w : World} {Pr : Prot} {bk : Key → Nat} {st : St} {a : Act} {N : Nat}

theorem eval_tmp {t : Nat} {v : Value} (h : a.tmps[t]? = some v) : a.eval (.tmp t) = v := by simp [Act.eval, h]
theorem ev_rp (I : Inv base w Pr bk st a N) {x : Operand} {av : AV} (h : st.ev x = some av) : ∃ t, RpA st a w Pr bk t av (a.eval x) := by
  cases x with
  | tmp t => obtain ⟨v, h1, h2⟩ := I.slots t av h; exact ⟨t, by rw [eval_tmp h1]; exact h2⟩
  | const v =>
    simp only [St.ev, Option.map_eq_some_iff] at h
    obtain ⟨p, hp, rfl⟩ := h
    exact ⟨0, pvOf_rp hp⟩
  | func f => simp only [St.ev, Option.some.injEq] at h; subst h; exact ⟨0, Rp.fn .nil⟩
  | global g => simp [St.ev] at h
theorem ev_pv (I : Inv base w Pr bk st a N) {x : Operand} {p : PV} (h : st.ev x = some (.pv p)) : Rp w Pr p (a.eval x) := by obtain ⟨t, h1⟩ := ev_rp I h; exact h1
theorem pv_ev {x : Operand} {p : PV} (h : st.pv x = some p) : st.ev x = some (.pv p) := by
  unfold St.pv at h; split at h
  · simp at h; subst h; assumption
  · simp at h
theorem pv_rp (I : Inv base w Pr bk st a N) {x : Operand} {p : PV} (h : st.pv x = some p) : Rp w Pr p (a.eval x) := ev_pv I (pv_ev h)
theorem val_eq (I : Inv base w Pr bk st a N) {x : Operand} {v : Value} (h : st.val x = some v) : a.eval x = v := by
  simp only [St.val, Option.bind_eq_some_iff] at h
  obtain ⟨p, h1, h2⟩ := h
  exact valOf_rp h2 (pv_rp I h1)
theorem ev_bp (I : Inv base w Pr bk st a N) {x : Operand} {k off : Nat} (h : st.ev x = some (.bp k off)) : a.eval x = .pointer (some ⟨bk (.bx k), off, none⟩) := by obtain ⟨t, h1⟩ := ev_rp I h; exact h1
theorem ev_xr (I : Inv base w Pr bk st a N) {x : Operand} {u : Nat} (h : st.ev x = some (.xr u)) : a.tmps[u]? = some (a.eval x) ∧ exAt st u := by obtain ⟨t, h1⟩ := ev_rp I h; exact h1
theorem int_eq (I : Inv base w Pr bk st a N) {x : Operand} {n : Int} (h : (st.pv x).bind intOfPV = some n) : ∃ k, a.eval x = .int k n := by
  simp only [Option.bind_eq_some_iff] at h
  obtain ⟨p, h1, h2⟩ := h
  have := pv_rp I h1
  generalize a.eval x = u at this ⊢
  unfold intOfPV at h2
  split at h2
  · simp at h2; subst h2; cases this; exact ⟨_, rfl⟩
  · simp at h2

theorem wp_value {o : Oper} {K : Act → World → Prop} {Q : Exit → Act → World → Prop} {v : Value} (h : (execOp a.eval o).run P w = .ok (.value v) w) (k : K (a.put o.dst v) w) : o.wp P a w K Q := by
  unfold Oper.wp; rw [h]; exact k
theorem run_v {s : Sem Value} {v : Value} {w' : World} (h : s.run P w = .ok v w') : (do pure (Next.value (← s)) : Sem Next).run P w = .ok (.value v) w' := by simp [h]

/-- What quiet operations owe. -/
def QOk (P : Program) (base : Nat) (w : World) (Pr : Prot) (bk : Key → Nat) (st : St) (a : Act) (o : Oper) (m : Made) : Prop :=
  ∀ (K : Act → World → Prop) (Q : Exit → Act → World → Prop), (∀ v w' Pr', Fw w Pr w' Pr' → MadeOk base w' Pr' bk st a m v → K (a.put o.dst v) w') → o.wp P a w K Q

theorem madeOk_pv {p : PV} {v : Value} (h : Rp w Pr p v) : MadeOk base w Pr bk st a { v := .pv p } v :=
  ⟨fun _ _ => h, fun _ _ _ h => by simp at h, fun z h => by simp at h, fun q h => by simp at h⟩
theorem qok_value (I : Inv base w Pr bk st a N) {o : Oper} {m : Made} {v : Value} (h : (execOp a.eval o).run P w = .ok (.value v) w) (hm : MadeOk base w Pr bk st a m v) : QOk P base w Pr bk st a o m :=
  fun K Q hK => wp_value h (hK v w Pr (Fw.refl I.prot) hm)
theorem qok_pure (I : Inv base w Pr bk st a N) {o : Oper} {m : Made} {s : Sem Value} (he : execOp a.eval o = (do pure (Next.value (← s)) : Sem Next)) (h : mkd (pureOp P s) = some m) : QOk P base w Pr bk st a o m := by
  simp only [mkd, Option.map_eq_some_iff] at h
  obtain ⟨p, hp, rfl⟩ := h
  obtain ⟨v, h1, h2⟩ := pureOp_run hp w Pr
  exact qok_value I (by rw [he]; exact run_v h1) (madeOk_pv h2)

/-! ### Types -/
theorem sizeT_info {t : TypeId} {s : Nat} (h : sizeT P t = some s) : ∃ i, P.info? t = some i ∧ i.size = s := by
  simp only [sizeT, Option.map_eq_some_iff] at h; exact h
theorem run_sizeT {t : TypeId} {s : Nat} (h : sizeT P t = some s) (w : World) : (sizeOf t).run P w = .ok s w := by
  obtain ⟨i, h1, h2⟩ := sizeT_info h
  simp [sizeOf, typeInfo, h1, h2]
theorem run_under {t : TypeId} {d : TypeDesc} (h : P.underlying t = some d) (w : World) : (underlying t).run P w = .ok d w := run_underlying h w
theorem run_isAgg {t : TypeId} (h : (P.underlying t).isSome = true) (w : World) : (isAgg t).run P w = .ok (isRowT P t) w := by
  obtain ⟨d, hd⟩ := Option.isSome_iff_exists.1 h
  unfold isAgg isRowT
  rw [Sem.run_bind, run_under hd]
  rw [hd]
  cases d <;> simp
theorem isRowT_some {t : TypeId} (h : isRowT P t = true) : ∃ d, P.underlying t = some d ∧ d.isRow = true := by
  unfold isRowT at h
  split at h
  · exact ⟨_, ‹_›, rfl⟩
  · exact ⟨_, ‹_›, rfl⟩
  · simp at h

theorem takeT_load {t : TypeId} {cs : List PV} {off : Nat} {p : PV} {vs : List Value} {b o : Nat} (h : takeT P t cs off = some p) (hr : RpL w Pr cs vs) (h1 : One vs) (hc : w.rangeAt b o vs) :
    ∃ v, (loadVar t ⟨b, o + off, none⟩).run P w = .ok v w ∧ Rp w Pr p v ∧ (isRowT P t = false → vs[off]? = some v ∧ cs[off]? = some p) := by
  simp only [takeT, Option.bind_eq_some_iff] at h
  obtain ⟨s, hs, h⟩ := h
  split at h
  · rename_i hle
    have hlen := hr.length
    split at h
    · rename_i hrow
      simp only [Option.some.injEq] at h; subst h
      obtain ⟨d, hd, hd2⟩ := isRowT_some hrow
      refine ⟨_, run_loadVar_mid w b (o + off) t ((vs.drop off).take s) d (rangeAt_take (rangeAt_drop hc off) s) hd hd2 ?_, .ag ((hr.drop off).take s) (fun v hv => h1 v (List.mem_of_mem_drop (List.mem_of_mem_take hv))), by simp [hrow]⟩
      obtain ⟨i, hi1, hi2⟩ := sizeT_info hs
      rw [hi1]; simp [hi2]; omega
    · rename_i hrow
      split at h
      · rename_i hs1
        obtain ⟨v, hv, hp⟩ := hr.get off p h
        refine ⟨v, ?_, hp, fun _ => ⟨hv, h⟩⟩
        have hcell : w.cell? ⟨b, o + off, none⟩ = some v := hc off v hv
        unfold loadVar
        rw [Sem.run_bind, run_isAgg hs1.2]
        simp only [Bool.not_eq_true] at hrow
        simp [hrow, load, Sem.run, hcell]
      · simp at h
  · simp at h
theorem takeT_part {t : TypeId} {cs : List PV} {off : Nat} {p : PV} {vs : List Value} (h : takeT P t cs off = some p) (hr : RpL w Pr cs vs) (h1 : One vs) :
    ∃ v, (part t vs.toArray off).run P w = .ok v w ∧ Rp w Pr p v := by
  simp only [takeT, Option.bind_eq_some_iff] at h
  obtain ⟨s, hs, h⟩ := h
  split at h
  · split at h
    · rename_i hle hrow
      simp only [Option.some.injEq] at h; subst h
      obtain ⟨d, hd, hd2⟩ := isRowT_some hrow
      refine ⟨.agg ((vs.drop off).take s).toArray, ?_, .ag ((hr.drop off).take s) (fun v hv => h1 v (List.mem_of_mem_drop (List.mem_of_mem_take hv)))⟩
      unfold part
      rw [Sem.run_bind, run_isAgg (by rw [hd]; rfl)]
      simp only [hrow, Result.andThen_ok, if_true, Sem.run_bind, run_sizeT hs, Sem.run_pure]
      rw [List.extract_toArray, List.extract_eq_take_drop, Nat.add_sub_cancel_left]
    · rename_i hle hrow
      split at h
      · rename_i hs1
        obtain ⟨v, hv, hp⟩ := hr.get off p h
        refine ⟨v, ?_, hp⟩
        unfold part
        rw [Sem.run_bind, run_isAgg hs1.2]
        simp only [Bool.not_eq_true] at hrow
        simp [hrow, hv]
      · simp at h
  · simp at h

theorem RpA.any {t t' : Nat} {av : AV} {v : Value} (hn : ∀ sz n cs, av ≠ .ex sz n cs) (h : RpA st a w Pr bk t av v) : RpA st a w Pr bk t' av v := by
  cases av with
  | ex sz n cs => exact absurd rfl (hn sz n cs)
  | _ => exact h
theorem madeOk_av {av : AV} {v : Value} {t : Nat} (hn : ∀ sz n cs, av ≠ .ex sz n cs) (h : RpA st a w Pr bk t av v) : MadeOk base w Pr bk st a { v := av } v :=
  ⟨fun _ _ => h.any hn, fun sz n cs e => absurd e (hn sz n cs), fun z h => by simp at h, fun q h => by simp at h⟩
theorem qok_move (I : Inv base w Pr bk st a N) {o : Oper} {m : Made} {call : Nat → List PV → Option RV} {x : Operand} (ho : o.op = .move x) (h : quiet P call o st = some m) : QOk P base w Pr bk st a o m := by
  have he : (execOp a.eval o).run P w = .ok (.value (a.eval x)) w := by simp [execOp, ho]
  refine qok_value I he ?_
  simp only [quiet, ho] at h
  split at h
  · rename_i t heq
    simp only [Option.some.injEq] at h; subst h
    obtain ⟨t', hv⟩ := ev_rp I heq
    exact madeOk_av (by simp) hv
  · rename_i t off heq
    simp only [Option.some.injEq] at h; subst h
    obtain ⟨t', hv⟩ := ev_rp I heq
    exact madeOk_av (by simp) hv
  · simp at h
  · rename_i t sz n cs heq
    simp only [Option.some.injEq] at h; subst h
    obtain ⟨v, h1, h2⟩ := I.slots t _ heq
    exact madeOk_av (t := 0) (by simp) ⟨by rw [eval_tmp h1]; exact h1, _, _, _, heq⟩
  · rename_i t v hx1 hx2 hxn hx3 heq
    simp only [Option.some.injEq] at h; subst h
    obtain ⟨u, h1, h2⟩ := I.slots t v heq
    have hn : ∀ sz n cs, v ≠ .ex sz n cs := fun sz n cs e => hx3 sz n cs e
    rw [eval_tmp h1]
    refine ⟨fun _ _ => h2.any hn, fun sz n cs e => absurd e (hn sz n cs), fun z h => by simp at h, fun q hq hg => ?_⟩
    simp only at hq
    split at hq
    · simp only [Option.some.injEq] at hq; subst hq; exact h1
    · simp only [St.tag, Option.bind_eq_some_iff, id] at hq
      obtain ⟨q', hq1, rfl⟩ := hq
      rw [I.tags t q hq1 hg, h1]
  · simp at h
  · rename_i v hx1 hx2 hxn hx3 hx4 hx5 heq
    simp only [Option.some.injEq] at h; subst h
    obtain ⟨t', hv⟩ := ev_rp I heq
    exact madeOk_av (fun sz n cs e => hx3 sz n cs e) hv
  · simp at h
theorem qok_pick (I : Inv base w Pr bk st a N) {o : Oper} {m : Made} {call : Nat → List PV → Option RV} {c x y : Operand} (ho : o.op = .pick c x y) (h : quiet P call o st = some m) : QOk P base w Pr bk st a o m := by
  simp only [quiet, ho, Option.bind_eq_some_iff] at h
  obtain ⟨cv, hc, h⟩ := h
  split at h
  · rename_i t
    simp only [Option.map_eq_some_iff] at h
    obtain ⟨p, hp, rfl⟩ := h
    have hcv := val_eq I hc
    refine qok_value I (v := a.eval (if t then x else y)) ?_ (madeOk_pv (pv_rp I hp))
    simp only [execOp, ho, hcv]
    cases t <;> simp [asBool]
  · simp at h
theorem qok_binOp (I : Inv base w Pr bk st a N) {o : Oper} {m : Made} {call : Nat → List PV → Option RV} {op : BinOp} {t u : TypeId} {x y : Operand} (ho : o.op = .binOp op t x y u) (h : quiet P call o st = some m) : QOk P base w Pr bk st a o m := by
  simp only [quiet, ho, Option.bind_eq_some_iff] at h
  obtain ⟨p, hp, q, hq, h⟩ := h
  refine qok_pure I ?_ h
  simp only [execOp, ho, val_eq I hp, val_eq I hq]
theorem qok_unOp (I : Inv base w Pr bk st a N) {o : Oper} {m : Made} {call : Nat → List PV → Option RV} {op : UnOp} {t : TypeId} {x : Operand} (ho : o.op = .unOp op t x) (h : quiet P call o st = some m) : QOk P base w Pr bk st a o m := by
  simp only [quiet, ho, Option.bind_eq_some_iff] at h
  obtain ⟨p, hp, h⟩ := h
  refine qok_pure I ?_ h
  simp only [execOp, ho, val_eq I hp]
theorem qok_fieldAddr (I : Inv base w Pr bk st a N) {o : Oper} {m : Made} {call : Nat → List PV → Option RV} {s : TypeId} {x : Operand} {f : Nat} (ho : o.op = .fieldAddr s x f) (h : quiet P call o st = some m) : QOk P base w Pr bk st a o m := by
  simp only [quiet, ho, Option.bind_eq_some_iff] at h
  obtain ⟨⟨off, ty⟩, hf, h⟩ := h
  have run : ∀ b o', a.eval x = .pointer (some ⟨b, o', none⟩) → (execOp a.eval o).run P w = .ok (.value (.pointer (some ⟨b, o' + off, none⟩))) w := by
    intro b o' hx
    unfold fieldT at hf
    split at hf
    · rename_i fs hu
      simp only [Option.bind_eq_some_iff] at hf
      obtain ⟨fd, hfd, hf⟩ := hf
      split at hf
      · simp at hf
      · rename_i hz
        simp only [Option.map_eq_some_iff, Prod.mk.injEq] at hf
        obtain ⟨sz, hsz, rfl, rfl⟩ := hf
        have hsz0 : sz ≠ 0 := fun e => hz (by rw [hsz, e])
        simp only [execOp, ho]
        refine run_v ?_
        simp [Instr.fieldAt, run_under hu, hfd, hx, Instr.sureAddr, fieldPlace, run_sizeT hsz, hsz0, Addr.add_mid]
    · simp at hf
  split at h
  · rename_i k o' heq
    simp only [Option.some.injEq] at h; subst h
    exact qok_value I (run _ _ (ev_bp I heq)) (madeOk_av (t := 0) (by simp) rfl)
  · rename_i t o' heq
    simp only [Option.some.injEq] at h; subst h
    obtain ⟨t', ⟨b, o2, n, cap, h1, h2⟩, h3⟩ := ev_rp I heq
    exact qok_value I (run _ _ h2) (madeOk_av (t := 0) (by simp) ⟨⟨b, o2, n, cap, h1, by rw [Nat.add_assoc]⟩, h3⟩)
  · rename_i cs heq
    simp only [Option.some.injEq] at h; subst h
    have hv := ev_pv I heq
    generalize hx : a.eval x = v at hv
    cases hv with
    | el hr h1 hc hp =>
      refine qok_value I (run _ _ hx) (madeOk_pv (.el (hr.drop off) (fun v hv => h1 v (List.mem_of_mem_drop hv)) (rangeAt_drop hc off) (fun i hi => ?_)))
      rw [Nat.add_assoc]
      refine hp _ ?_
      simp at hi; omega
  · simp at h
theorem qok_field (I : Inv base w Pr bk st a N) {o : Oper} {m : Made} {call : Nat → List PV → Option RV} {s : TypeId} {x : Operand} {f : Nat} (ho : o.op = .field s x f) (h : quiet P call o st = some m) : QOk P base w Pr bk st a o m := by
  simp only [quiet, ho, Option.bind_eq_some_iff] at h
  obtain ⟨⟨off, ty⟩, hf, h⟩ := h
  split at h
  · rename_i cs heq
    have hv := pv_rp I heq
    generalize hx : a.eval x = v at hv
    cases hv with
    | ag hr h1 =>
      simp only [mkd, Option.map_eq_some_iff] at h
      obtain ⟨p, hp, rfl⟩ := h
      obtain ⟨v, hv1, hv2⟩ := takeT_part (P := P) hp hr h1
      refine qok_value I (v := v) ?_ (madeOk_pv hv2)
      unfold fieldT at hf
      split at hf
      · rename_i fs hu
        simp only [Option.bind_eq_some_iff] at hf
        obtain ⟨fd, hfd, hf⟩ := hf
        split at hf
        · simp at hf
        · simp only [Option.map_eq_some_iff, Prod.mk.injEq] at hf
          obtain ⟨sz, hsz, rfl, rfl⟩ := hf
          simp only [execOp, ho]
          refine run_v ?_
          simp [Instr.field, run_under hu, hfd, hx, asAgg, hv1]
      · simp at hf
  · simp at h
end
end Go.Proofs.YtibbgjafjhcemaaDoor.Cul
