/- Part of a proof by an abstract machine for the program's code: lemmas, without conditions of their own beyond those that each states. -/
import Derived.Test.YtibbgjafjhcemaaDoorM17
set_option linter.unusedVariables false
set_option linter.unusedSimpArgs false
namespace Go.Proofs.YtibbgjafjhcemaaDoor.Cul
open Go Go.RowKit
/-- What the operation reads is the same in the second frame. -/
structure Sees (o : Oper) (st st' : St) : Prop where
  ev : ∀ x ∈ o.op.operands.toList, ∀ av, st.ev x = some av → (∀ cs, av ≠ .newp cs) → st'.ev x = some av
  ex : ∀ u sz n cs, look st.sl u = some (.ex sz n cs) → look st'.sl u = some (.ex sz n cs)
  bx : st'.bx = st.bx
  gr : st'.gr = st.gr
  tg : ∀ t, Operand.tmp t ∈ o.op.operands.toList → st'.tag t = st.tag t
section
variable {P : Program} {call : Nat → List PV → Option RV} {o : Oper} {st st' : St}
theorem pvMono {x : Operand} (h : ∀ av, st.ev x = some av → (∀ cs, av ≠ .newp cs) → st'.ev x = some av) {p : PV} (hp : st.pv x = some p) : st'.pv x = some p := by
  have := h _ (pv_ev hp) (by simp)
  simp [St.pv, this]
theorem Sees.pv (S : Sees o st st') {x : Operand} (hx : x ∈ o.op.operands.toList) {p : PV} (hp : st.pv x = some p) : st'.pv x = some p := pvMono (S.ev x hx) hp
theorem Sees.val (S : Sees o st st') {x : Operand} (hx : x ∈ o.op.operands.toList) {v : Value} (h : st.val x = some v) : st'.val x = some v := by
  simp only [St.val, Option.bind_eq_some_iff] at h ⊢
  obtain ⟨p, h1, h2⟩ := h
  exact ⟨p, S.pv hx h1, h2⟩
theorem Sees.int (S : Sees o st st') {x : Operand} (hx : x ∈ o.op.operands.toList) {n : Int} (h : (st.pv x).bind intOfPV = some n) : (st'.pv x).bind intOfPV = some n := by
  simp only [Option.bind_eq_some_iff] at h ⊢
  obtain ⟨p, h1, h2⟩ := h
  exact ⟨p, S.pv hx h1, h2⟩
theorem partsOf_sees : ∀ (l : List (Nat × Operand)) (r : List (Nat × PV)), (∀ x ∈ l.map (·.2), ∀ av, st.ev x = some av → (∀ cs, av ≠ .newp cs) → st'.ev x = some av) → partsOf st l = some r → partsOf st' l = some r
  | [], r, h, hp => by simpa [partsOf] using hp
  | (i, x) :: l, r, h, hp => by
    simp only [partsOf, Option.bind_eq_some_iff] at hp ⊢
    obtain ⟨p, h1, h2⟩ := hp
    refine ⟨p, pvMono (h x (by simp)) h1, ?_⟩
    split at h2
    · simp at h2
    · rename_i hn
      rw [if_neg hn]
      simp only [Option.map_eq_some_iff] at h2 ⊢
      obtain ⟨q, h3, h4⟩ := h2
      exact ⟨q, partsOf_sees l q (fun y hy => h y (by simp at hy ⊢; exact .inr hy)) h3, h4⟩
theorem capsOf_bx (h : st'.bx = st.bx) : ∀ l, capsOf st' l = capsOf st l
  | [] => rfl
  | .pv p :: l => by simp [capsOf, capsOf_bx h l]
  | .bp k off :: l => by simp [capsOf, capsOf_bx h l, h]
theorem argOf_bx (h : st'.bx = st.bx) : ∀ av, st'.argOf av = st.argOf av
  | .pv p => rfl
  | .bp k off => by simp [St.argOf, h]
  | .cl f caps => by simp [St.argOf, capsOf_bx h]
  | .ex .. => rfl
  | .xr .. => rfl
  | .xe .. => rfl
  | .newp .. => rfl
  | .dead => rfl
theorem argsOf_sees (hb : st'.bx = st.bx) : ∀ (l : List Operand) (r : List PV), (∀ x ∈ l, ∀ av, st.ev x = some av → (∀ cs, av ≠ .newp cs) → st'.ev x = some av) → argsOf st l = some r → argsOf st' l = some r ∧ ∀ x ∈ l, st'.ev x = st.ev x
  | [], r, h, hp => ⟨by simpa [argsOf] using hp, by simp⟩
  | x :: l, r, h, hp => by
    simp only [argsOf, Option.bind_eq_some_iff, Option.map_eq_some_iff] at hp ⊢
    obtain ⟨p, ⟨av, h0, h1⟩, q, h3, h4⟩ := hp
    have hx := h x (by simp) av h0 (fun cs e => by subst e; simp [St.argOf] at h1)
    obtain ⟨i1, i2⟩ := argsOf_sees hb l q (fun y hy => h y (by simp; exact .inr hy)) h3
    refine ⟨⟨p, ⟨av, hx, by rw [argOf_bx hb]; exact h1⟩, q, i1, h4⟩, fun y hy => ?_⟩
    rcases List.mem_cons.1 hy with rfl | hy
    · rw [hx, h0]
    · exact i2 y hy
theorem capturedOf_sees : ∀ (l : List Operand) (r : List Cap), (∀ x ∈ l, ∀ av, st.ev x = some av → (∀ cs, av ≠ .newp cs) → st'.ev x = some av) → capturedOf st l = some r → capturedOf st' l = some r
  | [], r, h, hp => by simpa [capturedOf] using hp
  | x :: l, r, h, hp => by
    simp only [capturedOf] at hp ⊢
    have ih := capturedOf_sees l
    split at hp
    · rename_i p heq
      rw [h x (by simp) _ heq (by simp)]
      simp only [Option.map_eq_some_iff] at hp ⊢
      obtain ⟨q, h3, h4⟩ := hp
      exact ⟨q, ih q (fun y hy => h y (by simp; exact .inr hy)) h3, h4⟩
    · rename_i k off heq
      rw [h x (by simp) _ heq (by simp)]
      simp only [Option.map_eq_some_iff] at hp ⊢
      obtain ⟨q, h3, h4⟩ := hp
      exact ⟨q, ih q (fun y hy => h y (by simp; exact .inr hy)) h3, h4⟩
    · simp at hp
theorem quiet_sees (S : Sees o st st') {m : Made} (h : quiet P call o st = some m) : quiet P call o st' = some m := by
  cases ho : o.op with
  | move x =>
    have hx : x ∈ o.op.operands.toList := by simp [ho, Op.operands]
    simp only [quiet, ho] at h ⊢
    have key := S.ev x hx
    have htg : ∀ t, x = .tmp t → st'.tag t = st.tag t := fun t e => S.tg t (e ▸ hx)
    cases he : st.ev x with
    | none => rw [he] at h; cases x <;> simp at h
    | some av =>
      rw [he] at h
      cases av with
      | newp cs => cases x <;> simp at h
      | _ =>
        rw [key _ he (by simp)]
        cases x with
        | tmp t => simpa [S.gr, htg t rfl] using h
        | _ => exact h
  | pick c x y =>
    simp only [quiet, ho, Option.bind_eq_some_iff] at h ⊢
    obtain ⟨v, hc, h⟩ := h
    refine ⟨v, S.val (by simp [ho, Op.operands]) hc, ?_⟩
    split at h
    · rename_i b
      simp only [Option.map_eq_some_iff] at h ⊢
      obtain ⟨p, hp, h⟩ := h
      refine ⟨p, S.pv ?_ hp, h⟩
      cases b <;> simp [ho, Op.operands]
    · simp at h
  | binOp op t x y u =>
    simp only [quiet, ho, Option.bind_eq_some_iff] at h ⊢
    obtain ⟨v, hc, v2, hc2, h⟩ := h
    exact ⟨v, S.val (by simp [ho, Op.operands]) hc, v2, S.val (by simp [ho, Op.operands]) hc2, h⟩
  | unOp op t x =>
    simp only [quiet, ho, Option.bind_eq_some_iff] at h ⊢
    obtain ⟨v, hc, h⟩ := h
    exact ⟨v, S.val (by simp [ho, Op.operands]) hc, h⟩
  | convert s d x =>
    simp only [quiet, ho] at h ⊢
    cases hp : st.pv x with
    | none => rw [hp] at h; simp at h
    | some p => rw [hp] at h; rw [S.pv (by simp [ho, Op.operands]) hp]; exact h
  | fieldAddr s x f =>
    simp only [quiet, ho, Option.bind_eq_some_iff] at h ⊢
    obtain ⟨v, hc, h⟩ := h
    refine ⟨v, hc, ?_⟩
    have key := S.ev x (by simp [ho, Op.operands])
    split at h
    · rename_i he; rw [key _ he (by simp)]; exact h
    · rename_i he; rw [key _ he (by simp)]; exact h
    · rename_i he; rw [key _ he (by simp)]; exact h
    · simp at h
  | field s x f =>
    simp only [quiet, ho, Option.bind_eq_some_iff] at h ⊢
    obtain ⟨v, hc, h⟩ := h
    refine ⟨v, hc, ?_⟩
    cases hp : st.pv x with
    | none => rw [hp] at h; simp at h
    | some p => rw [hp] at h; rw [S.pv (by simp [ho, Op.operands]) hp]; exact h
  | indexAddr t x i =>
    simp only [quiet, ho] at h ⊢
    rw [Option.bind_eq_some_iff] at h ⊢
    obtain ⟨n, hn, h⟩ := h
    refine ⟨n, S.int (by simp [ho, Op.operands]) hn, ?_⟩
    have key := S.ev x (by simp [ho, Op.operands])
    split at h
    · rw [Option.bind_eq_some_iff] at h ⊢
      obtain ⟨s, hs, h⟩ := h
      refine ⟨s, hs, ?_⟩
      split at h
      · rename_i hc; rw [if_pos hc]
        split at h
        · rename_i he; rw [key _ he (by simp)]; exact h
        · rename_i he; rw [key _ he (by simp)]; exact h
        · simp at h
      · simp at h
    · rw [Option.bind_eq_some_iff] at h ⊢
      obtain ⟨s, hs, h⟩ := h
      refine ⟨s, hs, ?_⟩
      split at h
      · rename_i he; rw [key _ he (by simp)]; exact h
      · rename_i he; rw [key _ he (by simp)]
        simp only
        split at h
        · rename_i he2; rw [S.ex _ _ _ _ he2]; exact h
        · simp at h
      · simp at h
    · simp at h
  | index t x i =>
    simp only [quiet, ho] at h ⊢
    split at h
    · rename_i len e cs hu hp
      rw [hu, S.pv (by simp [ho, Op.operands]) hp]
      simp only
      rw [Option.bind_eq_some_iff] at h ⊢
      obtain ⟨n, hn, h⟩ := h
      exact ⟨n, S.int (by simp [ho, Op.operands]) hn, h⟩
    · rename_i hno
      simp only [Option.bind_eq_some_iff] at h
      obtain ⟨v, hc, v2, hc2, h⟩ := h
      have hx : x ∈ o.op.operands.toList := by simp [ho, Op.operands]
      have hi : i ∈ o.op.operands.toList := by simp [ho, Op.operands]
      have e : st'.pv x = st.pv x := by
        simp only [St.val, Option.bind_eq_some_iff] at hc
        obtain ⟨p, h1, h2⟩ := hc
        rw [h1, S.pv hx h1]
      rw [e]
      split
      · rename_i len e cs hu hp; exact absurd hp (hno len e cs hu)
      · simp only [Option.bind_eq_some_iff]
        exact ⟨v, S.val hx hc, v2, S.val hi hc2, h⟩
  | load t x =>
    simp only [quiet, ho] at h ⊢
    have key := S.ev x (by simp [ho, Op.operands])
    split at h
    · rename_i he; rw [key _ he (by simp)]; simp only; rw [S.bx, S.gr]; exact h
    · rename_i he; rw [key _ he (by simp)]; exact h
    · rename_i he; rw [key _ he (by simp)]
      simp only
      split at h
      · rename_i he2; rw [S.ex _ _ _ _ he2]; exact h
      · simp at h
    · simp at h
  | build t ps =>
    simp only [quiet, ho] at h ⊢
    split at h
    · rename_i z ps' hz hp
      rw [hz, partsOf_sees (st' := st') _ _ (fun x hx => S.ev x (by simpa [ho, Op.operands] using hx)) hp]
      exact h
    · simp at h
  | buildSlice t n ps =>
    simp only [quiet, ho] at h ⊢
    split at h
    · rw [Option.bind_eq_some_iff] at h ⊢
      obtain ⟨s, hs, h⟩ := h
      refine ⟨s, hs, ?_⟩
      rw [Option.bind_eq_some_iff] at h ⊢
      obtain ⟨z, hz, h⟩ := h
      refine ⟨z, hz, ?_⟩
      split at h
      · rename_i hc; rw [if_pos hc]
        rw [Option.bind_eq_some_iff] at h ⊢
        obtain ⟨q, hp, h⟩ := h
        exact ⟨q, partsOf_sees (st' := st') _ _ (fun x hx => S.ev x (by simpa [ho, Op.operands] using hx)) hp, h⟩
      · simp at h
    · simp at h
  | extract x i =>
    simp only [quiet, ho] at h ⊢
    split at h
    · rename_i hp; rw [S.pv (by simp [ho, Op.operands]) hp]; exact h
    · simp at h
  | slice t x lo hi mx =>
    simp only [quiet, ho] at h ⊢
    have hx : x ∈ o.op.operands.toList := by simp [ho, Op.operands]
    have hlo : ∀ l, lo = some l → l ∈ o.op.operands.toList := fun l e => by subst e; simp [ho, Op.operands]
    have hhi : ∀ l, hi = some l → l ∈ o.op.operands.toList := fun l e => by subst e; simp [ho, Op.operands]
    split at h
    · rename_i hp; rw [S.pv hx hp]
      simp only
      split at h
      · rename_i e hu
        split at h
        · rename_i hc; rw [if_pos hc]
          rw [Option.bind_eq_some_iff] at h ⊢
          obtain ⟨b, hb, h⟩ := h
          refine ⟨b, ?_, ?_⟩
          · cases hi with
            | none => exact hb
            | some y => exact S.int (hhi y rfl) hb
          · rw [Option.bind_eq_some_iff] at h ⊢
            obtain ⟨c, hc, h⟩ := h
            refine ⟨c, ?_, h⟩
            cases lo with
            | none => exact hc
            | some y => exact S.int (hlo y rfl) hc
        · simp at h
      · simp at h
    · rename_i p hno hp
      rw [S.pv hx hp]
      cases p with
      | sl sz n cs => exact absurd rfl (hno sz n cs)
      | _ =>
        simp only at h ⊢
        rw [Option.bind_eq_some_iff] at h ⊢
        obtain ⟨b, hb, h⟩ := h
        refine ⟨b, hb, ?_⟩
        cases mx with
        | some z => cases lo <;> cases hi <;> simp at h
        | none =>
          cases lo with
          | none =>
            cases hi with
            | none => exact h
            | some y =>
              simp only [Option.bind_eq_some_iff] at h ⊢
              obtain ⟨v, hv, h⟩ := h
              exact ⟨v, S.val (hhi y rfl) hv, h⟩
          | some l =>
            cases hi with
            | none =>
              simp only [Option.bind_eq_some_iff] at h ⊢
              obtain ⟨v, hv, h⟩ := h
              exact ⟨v, S.val (hlo l rfl) hv, h⟩
            | some y =>
              simp only [Option.bind_eq_some_iff] at h ⊢
              obtain ⟨v, hv, v2, hv2, h⟩ := h
              exact ⟨v, S.val (hlo l rfl) hv, v2, S.val (hhi y rfl) hv2, h⟩
    · simp at h
  | makeFunc f fi ca =>
    cases f with
    | func f =>
      simp only [quiet, ho] at h ⊢
      split at h
      · rename_i hc; rw [if_pos hc]
        simp only [Option.map_eq_some_iff] at h ⊢
        obtain ⟨q, hp, h⟩ := h
        exact ⟨q, capturedOf_sees (st' := st') _ _ (fun x hx => S.ev x (by simp [ho, Op.operands]; exact .inr (by simpa using hx))) hp, h⟩
      · simp at h
    | _ => simp [quiet, ho] at h
  | nilCheck x =>
    simp only [quiet, ho] at h ⊢
    have key := S.ev x (by simp [ho, Op.operands])
    split at h
    · rename_i he; rw [key _ he (by simp)]; exact h
    · rename_i he; rw [key _ he (by simp)]; exact h
    · rename_i he; rw [key _ he (by simp)]; exact h
    · simp at h
  | call c =>
    obtain ⟨callee, args, ts⟩ := c
    cases callee with
    | value g =>
      simp only [quiet, ho] at h ⊢
      have key := S.ev g (by simp [ho, Op.operands, Call.operands])
      split at h
      · rename_i v he
        simp only [Option.bind_eq_some_iff] at h
        obtain ⟨p, hp, h⟩ := h
        rw [key _ he (fun cs e => by subst e; simp [St.argOf] at hp)]
        simp only [Option.bind_eq_some_iff]
        refine ⟨p, by rw [argOf_bx S.bx]; exact hp, ?_⟩
        split at h
        · simp only [Option.bind_eq_some_iff] at h ⊢
          obtain ⟨q, hq, h⟩ := h
          obtain ⟨i1, i2⟩ := argsOf_sees (st' := st') S.bx _ _ (fun x hx => S.ev x (by simp [ho, Op.operands, Call.operands]; exact .inr (by simpa using hx))) hq
          refine ⟨q, i1, ?_⟩
          have : (args.toList.any fun x => ((st'.ev x).map leadsOut).getD true) = (args.toList.any fun x => ((st.ev x).map leadsOut).getD true) := by
            rw [Bool.eq_iff_iff]
            simp only [List.any_eq_true]
            constructor
            · rintro ⟨x, hx, hh⟩; exact ⟨x, hx, by rw [← i2 x hx]; exact hh⟩
            · rintro ⟨x, hx, hh⟩; exact ⟨x, hx, by rw [i2 x hx]; exact hh⟩
          have e2 := this
          simp only [Array.any_toList] at e2
          simp only [Array.any_toList] at h ⊢
          rw [e2]; exact h
        · simp at h
      · simp at h
    | builtin b =>
      cases b with
      | len =>
        simp only [quiet, ho] at h ⊢
        split at h
        · rename_i x hx
          have hm : x ∈ o.op.operands.toList := by
            have : x ∈ args.toList := by rw [hx]; simp
            simp [ho, Op.operands, Call.operands]; simpa using this
          have key := S.ev x hm
          split at h
          · rename_i he; rw [key _ he (by simp)]; exact h
          · rename_i he; rw [key _ he (by simp)]
            simp only
            split at h
            · rename_i he2 hu; rw [S.ex _ _ _ _ he2, hu]; exact h
            · simp at h
          · rename_i p hno he; rw [key _ he (by simp)]
            cases p with
            | sl sz n cs => exact absurd rfl (hno sz n cs)
            | _ => exact h
          · simp at h
        · simp at h
      | max =>
        simp only [quiet, ho] at h ⊢
        split at h
        · rename_i x y hx
          have hm : x ∈ args.toList ∧ y ∈ args.toList := by rw [hx]; simp
          simp only [Option.bind_eq_some_iff] at h ⊢
          obtain ⟨v, hv, v2, hv2, h⟩ := h
          exact ⟨v, S.val (by simp [ho, Op.operands, Call.operands]; simpa using hm.1) hv, v2, S.val (by simp [ho, Op.operands, Call.operands]; simpa using hm.2) hv2, h⟩
        · simp at h
      | min =>
        simp only [quiet, ho] at h ⊢
        split at h
        · rename_i x y hx
          have hm : x ∈ args.toList ∧ y ∈ args.toList := by rw [hx]; simp
          simp only [Option.bind_eq_some_iff] at h ⊢
          obtain ⟨v, hv, v2, hv2, h⟩ := h
          exact ⟨v, S.val (by simp [ho, Op.operands, Call.operands]; simpa using hm.1) hv, v2, S.val (by simp [ho, Op.operands, Call.operands]; simpa using hm.2) hv2, h⟩
        · simp at h
      | _ => simp [quiet, ho] at h
    | invoke r n => simp [quiet, ho] at h
  | _ => simp [quiet, ho] at h
end
end Go.Proofs.YtibbgjafjhcemaaDoor.Cul
