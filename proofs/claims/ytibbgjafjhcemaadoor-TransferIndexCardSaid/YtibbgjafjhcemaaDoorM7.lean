/- Part of a proof by an abstract machine for the program's code: lemmas, without conditions of their own beyond those that each states. -/
import Derived.Test.YtibbgjafjhcemaaDoorM6
set_option linter.unusedVariables false
set_option linter.unusedSimpArgs false
namespace Go.Proofs.YtibbgjafjhcemaaDoor.Cul
open Go Go.RowKit
section
variable {P : Program} {base : Nat} {w : World} {Pr : Prot} {bk : Key → Nat} {st : St} {a : Act} {N : Nat}
theorem args1 {args : Array Operand} {x : Operand} (h : args.toList = [x]) : args = #[x] := Array.ext' (by simpa using h)
theorem args2 {args : Array Operand} {x y : Operand} (h : args.toList = [x, y]) : args = #[x, y] := Array.ext' (by simpa using h)
theorem exec_builtin {o : Oper} {b : Builtin} {args : Array Operand} {ts : Array TypeId} (ho : o.op = .call { callee := .builtin b, args := args, argTypes := ts }) :
    (execOp a.eval o).run P w = (builtin b ts o.type (args.map fun | .const _ => true | _ => false) (args.map a.eval)).run P w := by
  simp [execOp, ho, resolve, invoke]; rfl
theorem qok_len (I : Inv base w Pr bk st a N) {o : Oper} {m : Made} {call : Nat → List PV → Option RV} {args : Array Operand} {ts : Array TypeId} (ho : o.op = .call { callee := .builtin .len, args := args, argTypes := ts }) (h : quiet P call o st = some m) : QOk P base w Pr bk st a o m := by
  simp only [quiet, ho] at h
  have he := exec_builtin (P := P) (w := w) (a := a) ho
  split at h
  · rename_i x hx
    rw [args1 hx] at he
    simp only [builtin, List.map_toArray, List.map_cons, List.map_nil] at he
    have hlen : ∀ A n cap e, a.eval x = .slice A n cap → (ts[0]?).bind P.underlying = some (.slice e) → (execOp a.eval o).run P w = .ok (.value (.int .i64 n)) w := fun A n cap e hxe ht => by
      rw [he, hxe]
      simp only [Option.bind_eq_some_iff] at ht
      obtain ⟨t, ht0, ht1⟩ := ht
      refine run_v ?_
      simp [Builtin.len_, ht0, run_under ht1, goInt]
    split at h
    · rename_i sz n cs heq
      split at h
      · rename_i e ht
        simp only [Option.some.injEq] at h; subst h
        have hv := ev_pv I heq
        generalize hxe : a.eval x = v at hv
        cases hv with
        | sl hr h1 hl hn hc hp => exact qok_value I (hlen _ _ _ _ hxe ht) (madeOk_pv (.lit rfl))
        | sl0 => exact qok_value I (hlen _ _ _ _ hxe ht) (madeOk_pv (.lit rfl))
      · simp at h
    · rename_i u heq
      split at h
      · rename_i sz n cs e hl ht
        simp only [Option.some.injEq] at h; subst h
        obtain ⟨h1, h2⟩ := ev_xr I heq
        obtain ⟨v, hv1, o', cap, vs, rfl, hv2⟩ := I.slots u _ hl
        rw [hv1] at h1
        exact qok_value I (hlen _ _ _ _ (Option.some.inj h1).symm ht) (madeOk_pv (.lit rfl))
      · simp at h
    · rename_i p hne heq
      rw [Option.bind_eq_some_iff] at h
      obtain ⟨v, hv, h⟩ := h
      have hv2 := valOf_rp hv (ev_pv I heq)
      simp only [mkd, Option.map_eq_some_iff] at h
      obtain ⟨p', hp', rfl⟩ := h
      obtain ⟨u, h1, h2⟩ := pureOp_run hp' w Pr
      exact qok_value I (by rw [he, hv2]; exact run_v h1) (madeOk_pv h2)
    · simp at h
  · simp at h
theorem qok_max (I : Inv base w Pr bk st a N) {o : Oper} {m : Made} {call : Nat → List PV → Option RV} {args : Array Operand} {ts : Array TypeId} (ho : o.op = .call { callee := .builtin .max, args := args, argTypes := ts }) (h : quiet P call o st = some m) : QOk P base w Pr bk st a o m := by
  simp only [quiet, ho] at h
  have he := exec_builtin (P := P) (w := w) (a := a) ho
  split at h
  · rename_i x y hx
    rw [args2 hx] at he
    simp only [Option.bind_eq_some_iff] at h
    obtain ⟨p, hp, q, hq, h⟩ := h
    simp only [mkd, Option.map_eq_some_iff] at h
    obtain ⟨p', hp', rfl⟩ := h
    obtain ⟨u, h1, h2⟩ := pureOp_run hp' w Pr
    refine qok_value I (v := u) ?_ (madeOk_pv h2)
    rw [he]; simp only [builtin, List.map_toArray, List.map_cons, List.map_nil, val_eq I hp, val_eq I hq]; exact run_v h1
  · simp at h
theorem qok_min (I : Inv base w Pr bk st a N) {o : Oper} {m : Made} {call : Nat → List PV → Option RV} {args : Array Operand} {ts : Array TypeId} (ho : o.op = .call { callee := .builtin .min, args := args, argTypes := ts }) (h : quiet P call o st = some m) : QOk P base w Pr bk st a o m := by
  simp only [quiet, ho] at h
  have he := exec_builtin (P := P) (w := w) (a := a) ho
  split at h
  · rename_i x y hx
    rw [args2 hx] at he
    simp only [Option.bind_eq_some_iff] at h
    obtain ⟨p, hp, q, hq, h⟩ := h
    simp only [mkd, Option.map_eq_some_iff] at h
    obtain ⟨p', hp', rfl⟩ := h
    obtain ⟨u, h1, h2⟩ := pureOp_run hp' w Pr
    refine qok_value I (v := u) ?_ (madeOk_pv h2)
    rw [he]; simp only [builtin, List.map_toArray, List.map_cons, List.map_nil, val_eq I hp, val_eq I hq]; exact run_v h1
  · simp at h

/-! ### Calls -/
theorem capsOf_rp (I : Inv base w Pr bk st a N) {PrC : Prot} (hP : ∀ b o, Pr b o → PrC b o) (hB : ∀ k cs, look st.bx k = some cs → ∀ o, PrC (bk (.bx k)) o) :
    ∀ {caps : List Cap} {ps : List PV} {vs : List Value}, capsOf st caps = some ps → vs.length = caps.length → (∀ (i : Nat) (c : Cap) (u : Value), caps[i]? = some c → vs[i]? = some u → CapRp w Pr bk c u) → RpL w PrC ps vs
  | [], ps, vs, h, hl, _ => by simp [capsOf] at h; subst h; simp at hl; subst hl; exact .nil
  | .pv p :: caps, ps, [], h, hl, hc => by simp at hl
  | .bp k off :: caps, ps, [], h, hl, hc => by simp at hl
  | .pv p :: caps, ps, v :: vs, h, hl, hc => by
    simp only [capsOf, Option.map_eq_some_iff] at h
    obtain ⟨qs, hq, rfl⟩ := h
    exact .cons (Rp.mono ⟨hP, fun _ _ _ => rfl⟩ (hc 0 _ _ rfl rfl)) (capsOf_rp I hP hB hq (by simpa using hl) (fun i c u h1 h2 => hc (i + 1) c u (by simpa using h1) (by simpa using h2)))
  | .bp k off :: caps, ps, v :: vs, h, hl, hc => by
    simp only [capsOf, Option.bind_eq_some_iff, Option.map_eq_some_iff] at h
    obtain ⟨cs, hk, qs, hq, rfl⟩ := h
    have hv : v = _ := hc 0 _ _ rfl rfl
    refine .cons ?_ (capsOf_rp I hP hB hq (by simpa using hl) (fun i c u h1 h2 => hc (i + 1) c u (by simpa using h1) (by simpa using h2)))
    rw [hv]
    obtain ⟨⟨T, us, hv1, hv2, hv3⟩, hv4⟩ := I.boxes k cs hk
    have hr : w.rangeAt (bk (.bx k)) 0 us := fun j v hj => by rw [cell_of_row w _ _ _ _ _ hv1]; simpa using hj
    have h2 := Rp.el (w := w) (Pr := PrC) (RpL.mono ⟨hP, fun _ _ _ => rfl⟩ (hv2.drop off)) (fun v hv => hv3 v (List.mem_of_mem_drop hv)) (rangeAt_drop hr off) (fun i _ => hB k cs hk _)
    simpa using h2
theorem argOf_rp (I : Inv base w Pr bk st a N) {PrC : Prot} (hP : ∀ b o, Pr b o → PrC b o) (hB : ∀ k cs, look st.bx k = some cs → ∀ o, PrC (bk (.bx k)) o) {x : Operand} {av : AV} {p : PV}
    (hx : st.ev x = some av) (h : st.argOf av = some p) : Rp w PrC p (a.eval x) := by
  obtain ⟨t, hv⟩ := ev_rp I hx
  cases av with
  | pv q => simp only [St.argOf, Option.some.injEq] at h; subst h; exact Rp.mono ⟨hP, fun _ _ _ => rfl⟩ hv
  | bp k off =>
    simp only [St.argOf, Option.map_eq_some_iff] at h
    obtain ⟨cs, hk, rfl⟩ := h
    have hv : a.eval x = _ := hv
    rw [hv]
    obtain ⟨⟨T, us, hv1, hv2, hv3⟩, hv4⟩ := I.boxes k cs hk
    have hr : w.rangeAt (bk (.bx k)) 0 us := fun j v hj => by rw [cell_of_row w _ _ _ _ _ hv1]; simpa using hj
    have h2 := Rp.el (w := w) (Pr := PrC) (RpL.mono ⟨hP, fun _ _ _ => rfl⟩ (hv2.drop off)) (fun v hv => hv3 v (List.mem_of_mem_drop hv)) (rangeAt_drop hr off) (fun i _ => hB k cs hk _)
    simpa using h2
  | cl f caps =>
    simp only [St.argOf, Option.map_eq_some_iff] at h
    obtain ⟨ps, hps, rfl⟩ := h
    obtain ⟨vs, h1, h2, h3⟩ := hv
    rw [h1]
    exact .fn (capsOf_rp I hP hB hps h2 h3)
  | _ => simp [St.argOf] at h
theorem argsOf_rp (I : Inv base w Pr bk st a N) {PrC : Prot} (hP : ∀ b o, Pr b o → PrC b o) (hB : ∀ k cs, look st.bx k = some cs → ∀ o, PrC (bk (.bx k)) o) :
    ∀ {l : List Operand} {ps : List PV}, argsOf st l = some ps → RpL w PrC ps (l.map a.eval)
  | [], ps, h => by simp [argsOf] at h; subst h; exact .nil
  | x :: l, ps, h => by
    simp only [argsOf, Option.bind_eq_some_iff, Option.map_eq_some_iff] at h
    obtain ⟨p, ⟨av, hx, hp⟩, qs, hq, rfl⟩ := h
    exact .cons (argOf_rp I hP hB hx hp) (argsOf_rp I hP hB hq)
/-- Where no address of the frame's own goes out, nothing more is protected. -/
theorem argOf_rp0 (I : Inv base w Pr bk st a N) {x : Operand} {av : AV} {p : PV} (hx : st.ev x = some av) (ho : leadsOut av = false) (h : st.argOf av = some p) : Rp w Pr p (a.eval x) := by
  obtain ⟨t, hv⟩ := ev_rp I hx
  cases av with
  | pv q => simp only [St.argOf, Option.some.injEq] at h; subst h; exact hv
  | bp k off => simp [leadsOut] at ho
  | cl f caps =>
    simp only [St.argOf, Option.map_eq_some_iff] at h
    obtain ⟨ps, hps, rfl⟩ := h
    obtain ⟨vs, h1, h2, h3⟩ := hv
    rw [h1]
    refine .fn ?_
    clear h1 hx
    induction caps generalizing ps vs with
    | nil => simp [capsOf] at hps; subst hps; simp at h2; subst h2; exact .nil
    | cons c caps ih =>
      simp only [leadsOut, List.any_cons, Bool.or_eq_false_iff] at ho
      cases c with
      | bp k off => simp [capBox] at ho
      | pv q =>
        simp only [capsOf, Option.map_eq_some_iff] at hps
        obtain ⟨qs, hq, rfl⟩ := hps
        cases vs with
        | nil => simp at h2
        | cons v vs => exact .cons (h3 0 _ _ rfl rfl) (ih (by simpa [leadsOut] using ho.2) _ hq vs (by simpa using h2) (fun i c u h1 h2 => h3 (i + 1) c u (by simpa using h1) (by simpa using h2)))
  | _ => simp [St.argOf] at h
theorem argsOf_rp0 (I : Inv base w Pr bk st a N) : ∀ {l : List Operand} {ps : List PV}, (l.any fun x => ((st.ev x).map leadsOut).getD true) = false → argsOf st l = some ps → RpL w Pr ps (l.map a.eval)
  | [], ps, _, h => by simp [argsOf] at h; subst h; exact .nil
  | x :: l, ps, hn, h => by
    simp only [argsOf, Option.bind_eq_some_iff, Option.map_eq_some_iff] at h
    obtain ⟨p, ⟨av, hx, hp⟩, qs, hq, rfl⟩ := h
    simp only [List.any_cons, Bool.or_eq_false_iff, hx, Option.map_some, Option.getD_some] at hn
    exact .cons (argOf_rp0 I hx hn.1 hp) (argsOf_rp0 I hn.2 hq)
theorem exec_call {o : Oper} {g : Operand} {args : Array Operand} {ts : Array TypeId} (ho : o.op = .call { callee := .value g, args := args, argTypes := ts }) {f : Nat} {cs : List Value} (hg : a.eval g = .func (.func f) #[] cs.toArray) :
    execOp a.eval o = callFunc f ((args.toList.map a.eval) ++ cs).toArray := by
  have : args.map a.eval ++ cs.toArray = ((args.toList.map a.eval) ++ cs).toArray := Array.ext' (by simp)
  simp [execOp, ho, resolve, hg, Deferred.ofValue, invoke, this]
theorem wp_enter {o : Oper} {f : Nat} {args : Array Value} {K : Act → World → Prop} {Q : Exit → Act → World → Prop} {R : Ending → World → Prop} (he : execOp a.eval o = callFunc f args) (hb : HasBody P f)
    (hc : Calls P f args w R) (hR : ∀ e w', R e w' → ∃ v, e = .returned v ∧ K (a.put o.dst v) w') : o.wp P a w K Q := by
  obtain ⟨fn, c, h1, h2, h3⟩ := hb
  unfold Oper.wp
  have : (execOp a.eval o).run P w = .ok (.enter f args) w := by simp [he, callFunc, program, Sem.run, h1, h2, show ¬ fn.name = "runtime.NumGoroutine" from by simpa using h3]
  rw [this]
  refine hc.mono fun e w' h => ?_
  obtain ⟨v, rfl, hk⟩ := hR e w' h
  exact hk
theorem qok_call (I : Inv base w Pr bk st a N) {o : Oper} {m : Made} {call : Nat → List PV → Option RV} (hC : CallOk P call) {g : Operand} {args : Array Operand} {ts : Array TypeId} (ho : o.op = .call { callee := .value g, args := args, argTypes := ts }) (h : quiet P call o st = some m) : QOk P base w Pr bk st a o m := by
  simp only [quiet, ho] at h
  split at h
  · rename_i av hg
    rw [Option.bind_eq_some_iff] at h
    obtain ⟨p, hp, h⟩ := h
    split at h
    · rename_i f caps
      rw [Option.bind_eq_some_iff] at h
      obtain ⟨as, has, h⟩ := h
      simp only [callOut, Option.bind_eq_some_iff] at h
      obtain ⟨r, hr, h⟩ := h
      obtain ⟨hbody, hcall⟩ := hC f _ r hr
      generalize hout : (leadsOut av || args.toList.any fun x => ((st.ev x).map leadsOut).getD true) = out at h
      intro K Q hK
      cases out with
      | false =>
        simp only [Bool.false_eq_true, if_false, Option.some.injEq] at h
        simp only [Bool.or_eq_false_iff] at hout
        have hg2 := argOf_rp0 I hg hout.1 hp
        generalize hge : a.eval g = gv at hg2
        cases hg2 with
        | fn hcs =>
          have hargs := (argsOf_rp0 I hout.2 has).app hcs
          refine wp_enter (exec_call ho hge) hbody (hcall _ w Pr I.prot hargs) ?_
          rintro e w' ⟨v, Pr', rfl, hret⟩
          refine ⟨v, rfl, hK v w' Pr' hret.fw ?_⟩
          subst h
          refine ⟨fun _ _ => hret.rp, fun _ _ _ h => by simp at h, fun z hz => ?_, fun q h => by simp at h⟩
          obtain ⟨b, o', n, cap, cs, h1, h2, h3, h4, h5⟩ := hret.gr z hz
          exact ⟨b, o', n, cap, cs, by rw [h1], h2, h3, Nat.le_trans I.hb h4, h5, fun x hx => by have := (I.own x hx).2; omega⟩
      | true =>
        simp only [if_true] at h
        split at h
        · rename_i hv
          simp only [Option.some.injEq] at h
          obtain ⟨PrC, hPC⟩ : ∃ PrC : Prot, ∀ b o', PrC b o' ↔ (Pr b o' ∨ ∃ k cs, look st.bx k = some cs ∧ b = bk (.bx k)) := ⟨fun b o' => _, fun _ _ => Iff.rfl⟩
          have hP : ∀ b o, Pr b o → PrC b o := fun b o h => (hPC b o).2 (.inl h)
          have hB : ∀ k cs, look st.bx k = some cs → ∀ o, PrC (bk (.bx k)) o := fun k cs h o => (hPC _ o).2 (.inr ⟨k, cs, h, rfl⟩)
          have hg2 := argOf_rp I hP hB hg hp
          generalize hge : a.eval g = gv at hg2
          cases hg2 with
          | fn hcs =>
            have hargs := (argsOf_rp I hP hB has).app hcs
            refine wp_enter (exec_call ho hge) hbody (hcall _ w PrC (fun b o h => ?_) hargs) ?_
            · rcases (hPC b o).1 h with h | ⟨k, cs, hk2, rfl⟩
              · exact I.prot b o h
              · exact (I.own (.bx k) ⟨cs, hk2⟩).2
            rintro e w' ⟨v, Pr', rfl, hret⟩
            have hfw : Fw w Pr w' Pr := ⟨hret.fw.bel, fun _ _ h => h, fun _ _ _ h => h, fun b o h => Nat.lt_of_lt_of_le (I.prot b o h) hret.fw.bel.size⟩
            refine ⟨v, rfl, hK v w' Pr hfw ?_⟩
            subst h
            have hrp : Rp w' Pr r.v v := by
              have h0 := hret.rp
              unfold plainR at hv
              split at hv
              · rename_i he
                rw [he] at h0 ⊢
                cases h0 with
                | tup hr => cases hr; exact .tup .nil
              · obtain ⟨u, hvo⟩ := Option.isSome_iff_exists.1 hv
                exact valOf_any hvo h0
            exact madeOk_pv hrp
        · simp at h
    · simp at h
  · simp at h
end
end Go.Proofs.YtibbgjafjhcemaaDoor.Cul
