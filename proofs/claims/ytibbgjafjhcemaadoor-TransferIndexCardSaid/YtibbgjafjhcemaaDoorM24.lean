/- Part of a proof by an abstract machine for the program's code: lemmas, without conditions of their own beyond those that each states. -/
import Derived.Test.YtibbgjafjhcemaaDoorM24e
import Derived.LoopN
import Derived.Laws.Sem
set_option linter.unusedVariables false
set_option linter.unusedSimpArgs false
namespace Go.Proofs.YtibbgjafjhcemaaDoor.Cul
open Go Go.RowKit
section
variable {P : Program} {base : Nat} {w w0 : World} {Pr Pr0 : Prot} {bk : Key → Nat} {st st' : St} {a : Act} {N : Nat} {ops : Array Oper} {call : Nat → List PV → Option RV} {pin : Pins} {it : Nat → List PV → Option (Nat × List (List PV))}
theorem Good.val (G : Good base w0 Pr0 N pin st a w) {x : Operand} {v : Value} (h : st.val x = some v) : a.eval x = v := by
  obtain ⟨Pr, bk, I, _⟩ := G
  exact val_eq I h
theorem rounds_ok {F : Fence} {m : Nat} {c : Code} {f : St → Option (Xt × St)} {x : Xt} {Q : Exit → Act → World → Prop}
    (hf : ∀ st a w y s, Good base w0 Pr0 N pin st a w → f st = some (y, s) → ∀ Q : Exit → Act → World → Prop, (∀ a' w', Good base w0 Pr0 N pin s a' w' → Q (toExit y) a' w') → c.wpIn F m P Q a w)
    (hQ : ∀ a' w', Good base w0 Pr0 N pin st' a' w' → Q (toExit x) a' w') :
    ∀ (k : Nat) (st : St) (a : Act) (w : World), Good base w0 Pr0 N pin st a w → loopN f k st = some (x, st') → Code.roundsIn F m P c Q k a w
  | 0, st, a, w, G, h => by simp [loopN] at h
  | k + 1, st, a, w, G, h => by
    simp only [loopN, Option.bind_eq_some_iff] at h
    obtain ⟨⟨y, s⟩, h1, h2⟩ := h
    rw [roundsIn_succ]
    refine hf st a w y s G h1 _ fun a' w' G' => ?_
    cases y with
    | normal => exact rounds_ok hf hQ k s a' w' G' h2
    | exit id => simp only [Option.some.injEq, Prod.mk.injEq] at h2; obtain ⟨rfl, rfl⟩ := h2; exact hQ a' w' G'
    | ret => simp only [Option.some.injEq, Prod.mk.injEq] at h2; obtain ⟨rfl, rfl⟩ := h2; exact hQ a' w' G'
theorem arun_ok (hC : CallOk P call) (hI : IterOk P it) (hm : P.follows .mixedOrders = true) (note : Nat → Note) (k : Nat) : ∀ (c : Code), okCode N c = true → ∀ (F : Fence) (E : Easy F) (m : Nat) (w0 : World) (Pr0 : Prot) (pin : Pins), (flat c = true ∨ (F = Fence.wide ∧ pin.ds = none ∧ 2 ≤ m)) → (∀ d ∈ dstsOf c, pin.k d = none) → ∀ (st : St) (a : Act) (w : World) (x : Xt) (st' : St), Good base w0 Pr0 N pin st a w →
    arun P call it (fun g => loopN g k) note c st = some (x, st') → ∀ Q : Exit → Act → World → Prop, (∀ a' w', Good base w0 Pr0 N pin st' a' w' → Q (toExit x) a' w') → c.wpIn F m P Q a w
  | .skip, _, F, E, m, w0, Pr0, pin, _, _, st, a, w, x, st', G, h, Q, hQ => by
    simp only [arun, Option.some.injEq, Prod.mk.injEq] at h
    obtain ⟨rfl, rfl⟩ := h
    exact wpIn_skip (hQ a w G)
  | .region id ops dr, hok, F, E, m, w0, Pr0, pin, _, hpn, st, a, w, x, st', G, h, Q, hQ => by
    simp only [arun, Option.map_eq_some_iff, Prod.mk.injEq] at h
    obtain ⟨s, hs, rfl, rfl⟩ := h
    exact region_ok E m hC hm hok (fun o ho d hd => hpn d (List.mem_filterMap.2 ⟨o, ho, hd⟩)) (Good.stills _ G) hs fun a' w' G' => hQ a' w' (G'.keepOnly _)
  | .seq p q, hok, F, E, m, w0, Pr0, pin, hF, hpn, st, a, w, x, st', G, h, Q, hQ => by
    simp only [okCode, Bool.and_eq_true] at hok
    simp only [flat, Bool.and_eq_true] at hF
    simp only [arun, Option.bind_eq_some_iff] at h
    obtain ⟨⟨y, s⟩, h1, h2⟩ := h
    refine wpIn_seq (arun_ok hC hI hm note k p hok.1 F E m w0 Pr0 pin (hF.imp And.left id) (fun d hd => hpn d (List.mem_append_left _ hd)) st a w y s G h1 _ fun a' w' G' => ?_)
    cases y with
    | normal => exact arun_ok hC hI hm note k q hok.2 F E m w0 Pr0 pin (hF.imp And.right id) (fun d hd => hpn d (List.mem_append_right _ hd)) s a' w' x st' G' h2 Q hQ
    | exit id => simp only [Option.some.injEq, Prod.mk.injEq] at h2; obtain ⟨rfl, rfl⟩ := h2; exact hQ a' w' G'
    | ret => simp only [Option.some.injEq, Prod.mk.injEq] at h2; obtain ⟨rfl, rfl⟩ := h2; exact hQ a' w' G'
  | .cond c t e, hok, F, E, m, w0, Pr0, pin, hF, hpn, st, a, w, x, st', G, h, Q, hQ => by
    simp only [okCode, Bool.and_eq_true] at hok
    simp only [flat, Bool.and_eq_true] at hF
    simp only [arun, Option.bind_eq_some_iff] at h
    obtain ⟨v, hv, h⟩ := h
    have hev := G.val hv
    split at h
    · exact wpIn_cond_true hev (arun_ok hC hI hm note k t hok.1 F E m w0 Pr0 pin (hF.imp And.left id) (fun d hd => hpn d (List.mem_append_left _ hd)) st a w x st' G h Q hQ)
    · exact wpIn_cond_false hev (arun_ok hC hI hm note k e hok.2 F E m w0 Pr0 pin (hF.imp And.right id) (fun d hd => hpn d (List.mem_append_right _ hd)) st a w x st' G h Q hQ)
    · simp at h
  | .block id c, hok, F, E, m, w0, Pr0, pin, hF, hpn, st, a, w, x, st', G, h, Q, hQ => by
    simp only [okCode] at hok
    simp only [flat] at hF
    simp only [arun, Option.map_eq_some_iff] at h
    obtain ⟨⟨y, s⟩, h1, h2⟩ := h
    refine wpIn_block (arun_ok hC hI hm note k c hok F E m w0 Pr0 pin hF hpn st a w y s G h1 _ fun a' w' G' => ?_)
    cases y with
    | normal => simp only [Prod.mk.injEq] at h2; obtain ⟨rfl, rfl⟩ := h2; exact hQ a' w' G'
    | exit j =>
      simp only [toExit, Exit.inBlock]
      simp only at h2
      split at h2
      · rename_i hj; rw [if_pos hj]; simp only [Prod.mk.injEq] at h2; obtain ⟨rfl, rfl⟩ := h2; exact hQ a' w' G'
      · rename_i hj; rw [if_neg hj]; simp only [Prod.mk.injEq] at h2; obtain ⟨rfl, rfl⟩ := h2; exact hQ a' w' G'
    | ret => simp only [Prod.mk.injEq] at h2; obtain ⟨rfl, rfl⟩ := h2; exact hQ a' w' G'
  | .loop c, hok, F, E, m, w0, Pr0, pin, hF, hpn, st, a, w, x, st', G, h, Q, hQ => by
    simp only [okCode] at hok
    simp only [flat] at hF
    simp only [arun] at h
    exact wpIn_loop_rounds k (rounds_ok (f := arun P call it (fun g => loopN g k) note c) (fun st a w y s G h Q hQ => arun_ok hC hI hm note k c hok F E m w0 Pr0 pin hF hpn st a w y s G h Q hQ) hQ k st a w G h)
  | .rangeFunc g ps asg body, hok, F, E, m, w0, Pr0, pin, hF, hpn, st, a, w, x, st', G, h, Q, hQ => by
    simp only [okCode, Bool.and_eq_true] at hok
    obtain ⟨⟨⟨⟨hfa, hfb⟩, hoa⟩, hob⟩, hps⟩ := hok
    rcases hF with hF | ⟨rfl, hz, h1⟩
    · simp [flat] at hF
    · simp only [arun, Option.bind_eq_some_iff] at h
      obtain ⟨p, hp, h⟩ := h
      split at h
      · rename_i f caps
        simp only [Option.bind_eq_some_iff] at h
        obtain ⟨⟨n, xs⟩, hit, h⟩ := h
        split at h
        · rename_i hn
          simp only at hn; subst hn
          have hA : Part P base N (m - 1 - 1) (ps.toList ++ (dstsOf asg ++ dstsOf body)) asg (arun P call it (fun g => loopN g k) note asg) := fun l w0 Pr0 pin st a w x s hk G h Q hQ =>
            arun_ok hC hI hm note k asg hoa _ (easy_round l) (m - 1 - 1) w0 Pr0 pin (.inl hfa) (fun d hd => hk d (by rw [List.contains_eq_mem]; simp [hd])) st a w x s G h Q hQ
          have hB : Part P base N (m - 1 - 1) (ps.toList ++ (dstsOf asg ++ dstsOf body)) body (arun P call it (fun g => loopN g k) note body) := fun l w0 Pr0 pin st a w x s hk G h Q hQ =>
            arun_ok hC hI hm note k body hob _ (easy_round l) (m - 1 - 1) w0 Pr0 pin (.inl hfb) (fun d hd => hk d (by rw [List.contains_eq_mem]; simp [hd])) st a w x s G h Q hQ
          exact rangeFunc_ok hI h1 hA hB G hz (fun d hd => hpn d (by rw [List.contains_eq_mem] at hd; simpa [dstsOf] using hd)) (fun p hp => by simpa using List.all_eq_true.1 hps p hp) hp hit h hQ
        · simp at h
      · simp at h
  | .exit id, _, F, E, m, w0, Pr0, pin, _, _, st, a, w, x, st', G, h, Q, hQ => by
    simp only [arun, Option.some.injEq, Prod.mk.injEq] at h
    obtain ⟨rfl, rfl⟩ := h
    exact wpIn_exit (hQ a w G)
  | .ret, _, F, E, m, w0, Pr0, pin, _, _, st, a, w, x, st', G, h, Q, hQ => by
    simp only [arun, Option.some.injEq, Prod.mk.injEq] at h
    obtain ⟨rfl, rfl⟩ := h
    exact wpIn_ret (hQ a w G)
  | .label _, hok, _, _, _, _, _, _, _, _, _, _, _, _, _, _, _, _, _ => by simp [okCode] at hok
  | .goto _, hok, _, _, _, _, _, _, _, _, _, _, _, _, _, _, _, _, _ => by simp [okCode] at hok
end
end Go.Proofs.YtibbgjafjhcemaaDoor.Cul
