/- Part of a proof by an abstract machine for the program's code: lemmas, without conditions of their own beyond those that each states. -/
import Derived.Test.YtibbgjafjhcemaaDoorM28
set_option linter.unusedVariables false
set_option linter.unusedSimpArgs false
namespace Go.Proofs.YtibbgjafjhcemaaDoor.Cul
open Go Go.RowKit
section
variable {P : Program} {call : Nat → List PV → Option RV} {note : Nat → Note} {yr : Nat → Bool} {l : Nat} {xs : Nat → List PV} {N fuel : Nat} {n : Nat} {M : Nat} {J : Nat → Prot → World → Prop} {Jx : World → Prop}
/-- What the rounds owe the iterator. -/
structure YP (P : Program) (n l N : Nat) (xs : Nat → List PV) (J : Nat → Prot → World → Prop) (Jx : World → Prop) : Prop where
  grow : ∀ k Pi A B, J k Pi A → A.grownBy B none → J k (Pi.plus A B) B
  growx : ∀ A B, Jx A → A.grownBy B none → Jx B
  plain : ∀ k, k < N → (xs k).all plainP = true
  round : ∀ k Pi W1, J k Pi W1 → k < N → YieldAt Fence.wide (n - 1) P l ((xs k).map plainV).toArray W1 fun e W' => (e = .returned (.bool true) ∧ J (k + 1) Pi W' ∧ Keeps Pi W1 W' ∧ W1.heap.size ≤ W'.heap.size) ∨ (e = .returned (.bool false) ∧ Jx W')
theorem put_tmps {a : Act} {d : Option Tmp} {v : Value} : (a.put d v).defers = a.defers := by cases d <;> rfl
theorem good_put {W : World} {Pi : Prot} {st : St} {a : Act} {d : Option Tmp} {b : Bool} (hN : ∀ t, d = some t → t < M) (hp : ∀ b o, Pi b o → b < W.heap.size) (hsz : a.tmps.size = M) (hd : a.defers = []) (f : AV → AV)
    (h : ∀ t av, look (st.only f).sl t = some av → ∃ v, a.tmps[t]? = some v ∧ (av = .dead ∨ ∃ p, av = .pv p ∧ Rp W Pi p v)) : Good W.heap.size W Pi M pin0 ((st.only f).put d (.pv (.lit (.bool b)))) (a.put d (.bool b)) W := by
  cases d with
  | none => exact good_pure hp hsz hd rfl rfl rfl h
  | some t =>
    have ht := hN t rfl
    refine good_pure hp (by simp [Act.put, hsz]) (by rw [put_tmps]; exact hd) rfl rfl (by simp [St.put, St.only, drop1]) fun u av hu => ?_
    rw [look_put] at hu
    rw [put_get (by rw [hsz]; exact ht)]
    by_cases e : u = t
    · rw [if_pos e] at hu ⊢
      simp only [Option.map_some, Option.some.injEq] at hu
      refine ⟨_, rfl, ?_⟩
      rw [← hu]
      simp only [refersTo]
      exact .inr ⟨_, rfl, .lit rfl⟩
    · rw [if_neg e] at hu ⊢
      cases hq : look (st.only f).sl u with
      | none => rw [hq] at hu; simp at hu
      | some y =>
        rw [hq] at hu
        simp only [Option.map_some, Option.some.injEq] at hu
        obtain ⟨v, hv, h2⟩ := h u y hq
        refine ⟨v, hv, ?_⟩
        split at hu
        · exact .inl hu.symm
        · rw [← hu]; exact h2
theorem yOps_ok (hC : CallOk P call) (Y : YP P n l N xs J Jx) {ops : Array Oper} {Q : Exit → Act → World → Prop} {K : St → Option Nat → Prop} (hQ : ∀ st k a W, K st k → YG J Jx M k st a W → Q .normal a W) :
    ∀ (r : List Oper) (st : St) (k : Option Nat) (a : Act) (W : World), (∀ o ∈ r, ∀ d, o.dst = some d → d < M) → YG J Jx M k st a W → yOps P call l xs N ops.toList r st k K → wpListIn Fence.wide n P ops Q r a W
  | [], st, k, a, W, hN, G, h => hQ st k a W h G
  | o :: r, st, k, a, W, hN, G, h => by
    have hN' : ∀ o ∈ r, ∀ d, o.dst = some d → d < M := fun o' ho' => hN o' (List.mem_cons_of_mem _ ho')
    simp only [yOps] at h
    refine wpListIn_step fun K2 hK => ?_
    obtain ⟨base0, w00, Pr00, G0⟩ := G.any
    obtain ⟨PrI, bkI, I, hI2⟩ := G0
    split at h
    · rename_i hw
      rw [if_pos (wanted_eq (ops := ops) I hw)]
      split at h
      · -- yield
        rename_i j0 as has
        split at h
        · rename_i i
          obtain ⟨hjl, hi, hxs, ht, hf⟩ := h
          unfold yieldArgs at has
          split at has
          · rename_i g args ts ho
            split at has
            · rename_i j fi ca hev
              · split at has
                · simp at has
                · rename_i hlo
                  simp only [Option.map_eq_some_iff, Prod.mk.injEq] at has
                  obtain ⟨as', has, hj0, rfl⟩ := has
                  rw [hj0, hjl] at hev
                  obtain ⟨A, Pi, hJ, hg, hex, Pr1, bk1, I1, hb1, hp1, hko1, _, hkc1, hd1⟩ := G
                  have hdef : a.defers = [] := hd1 [] rfl
                  have hgv := ev_pv I1 hev
                  have hsc : fi = #[] ∧ a.eval g = .func (.yield l) fi ca := by
                    cases hge : a.eval g <;> rw [hge] at hgv <;> cases hgv
                    rename_i hs
                    simp only [scal, Bool.and_eq_true, Array.isEmpty_iff] at hs
                    exact ⟨hs.1, rfl⟩
                  have hargs := argsOf_rp0 I1 (by simpa using hlo) has
                  rw [hxs] at hargs
                  have hvals := plainP_all (Y.plain i hi) hargs
                  have hJ2 := Y.grow i Pi A W hJ hg
                  have hy := Y.round i _ W hJ2 hi
                  have harr : args.map a.eval = ((xs i).map plainV).toArray := by
                    rw [← hvals]; exact Array.ext' (by simp)
                  rw [← harr] at hy
                  refine oper_yield ho hsc.2 hsc.1 hy ?_
                  rintro e W' (⟨rfl, hJ3, hkeep, hsize⟩ | ⟨rfl, hJx⟩)
                  · refine ⟨_, rfl, hK _ _ (yOps_ok hC Y hQ r _ _ _ W' hN' ?_ ht)⟩
                    have hexW : ∀ b o, Pi.plus A W b o → ∃ v, W.cell? ⟨b, o, none⟩ = some v := fun b o h => by
                      rcases h with h | ⟨_, v, h⟩
                      · obtain ⟨v, hv⟩ := hex b o h
                        exact ⟨v, (hb1.cell (p := ⟨b, o, none⟩) (cell_lt hv)).trans hv⟩
                      · exact ⟨v, h⟩
                    have hcar : Carry W Pr1 W' (Pi.plus A W) := fun b o v h1 h2 => by
                      have hPl : Pi.plus A W b o := by
                        by_cases hlt : b < A.heap.size
                        · exact .inl (hp1 b o hlt h1)
                        · exact .inr ⟨by omega, v, h2⟩
                      exact ⟨hPl, hkeep b o v hPl h2⟩
                    refine ⟨W', _, hJ3, ⟨rfl, rfl, rfl, Nat.le_refl _, fun _ _ _ => rfl⟩, fun b o h => ?_, ?_⟩
                    · obtain ⟨v, hv⟩ := hexW b o h
                      exact ⟨v, hkeep b o v h hv⟩
                    · refine good_put (hN o (by simp)) (fun b o h => ?_) I1.size hdef backV fun t av hta => ?_
                      · obtain ⟨v, hv⟩ := hexW b o h
                        exact Nat.lt_of_lt_of_le (cell_lt hv) hsize
                      · rw [look_only] at hta
                        cases hq : look st.sl t with
                        | none => rw [hq] at hta; simp at hta
                        | some y =>
                          rw [hq] at hta
                          simp only [Option.map_some, Option.some.injEq] at hta
                          obtain ⟨v, hv, h2⟩ := I1.slots t y hq
                          refine ⟨v, hv, ?_⟩
                          cases y with
                          | pv p => exact .inr ⟨p, hta.symm, Rp.carry hcar h2⟩
                          | _ => exact .inl hta.symm
                  · refine ⟨_, rfl, hK _ _ (yOps_ok hC Y hQ r _ _ _ W' hN' ?_ hf)⟩
                    refine ⟨W', fun _ _ => False, hJx, ⟨rfl, rfl, rfl, Nat.le_refl _, fun _ _ _ => rfl⟩, ?_⟩
                    refine good_put (hN o (by simp)) (fun b o h => h.elim) I1.size hdef goneV fun t av hta => ?_
                    rw [look_only] at hta
                    cases hq : look st.sl t with
                    | none => rw [hq] at hta; simp at hta
                    | some y =>
                      rw [hq] at hta
                      simp only [Option.map_some, Option.some.injEq] at hta
                      obtain ⟨v, hv, h2⟩ := I1.slots t y hq
                      refine ⟨v, hv, ?_⟩
                      cases y with
                      | pv p =>
                        simp only [goneV] at hta
                        split at hta
                        · rename_i hpl
                          refine .inr ⟨p, hta.symm, ?_⟩
                          rw [plainP_eq hpl h2]
                          exact plainP_rp hpl
                        · exact .inl hta.symm
                      | _ => exact .inl hta.symm
            · simp at has
          · simp at has
        · exact h.elim
      · -- the machine
        split at h
        · rename_i s hs
          have hfin : ∀ a' W', YG J Jx M k s a' W' → K2 a' W' := fun a' W' G' => hK a' W' (yOps_ok hC Y hQ r s k a' W' hN' G' h)
          cases k with
          | some i =>
            obtain ⟨A, Pi, h1, h2, h3, Pr1, bk1, I1, hG2⟩ := G
            exact oper_in easy_wide (aop_notDefer hs) (Good.step hG2 (fun _ _ => rfl) (aop_ok hC I1 (hN o (by simp)) hs) fun a' W' G' => hfin a' W' ⟨A, Pi, h1, grownBy_of_below h2 (Good.below G'), h3, G'⟩)
          | none =>
            obtain ⟨A, Pi, h1, h2, Pr1, bk1, I1, hG2⟩ := G
            exact oper_in easy_wide (aop_notDefer hs) (Good.step hG2 (fun _ _ => rfl) (aop_ok hC I1 (hN o (by simp)) hs) fun a' W' G' => hfin a' W' ⟨A, Pi, h1, grownBy_of_below h2 (Good.below G'), G'⟩)
        · exact h.elim
    · rename_i hw
      rw [if_neg (by rw [wanted_eq (ops := ops) I hw]; simp)]
      refine ⟨fun f _ => trivial, hK _ _ (yOps_ok hC Y hQ r _ k _ W hN' ?_ h)⟩
      have skip : ∀ base w0 Pr0, Good base w0 Pr0 M pin0 st a W → Good base w0 Pr0 M pin0 (st.put o.dst undefA) (a.put o.dst undef) W := fun base w0 Pr0 ⟨Pr1, bk1, I1, hG2⟩ => by
        obtain ⟨bk', I', hbk⟩ := skip_ok I1 (hN o (by simp))
        exact ⟨Pr1, bk', I', hG2.1, hG2.2.1, hG2.2.2.1, fun k b e => by simp [pin0] at e, hG2.2.2.2.2.1, fun ds e => by rw [put_tmps]; exact hG2.2.2.2.2.2 ds e⟩
      cases k with
      | some i => obtain ⟨A, Pi, h1, h2, h3, h4⟩ := G; exact ⟨A, Pi, h1, h2, h3, skip _ _ _ h4⟩
      | none => obtain ⟨A, Pi, h1, h2, h4⟩ := G; exact ⟨A, Pi, h1, h2, skip _ _ _ h4⟩
    · exact h.elim
end
end Go.Proofs.YtibbgjafjhcemaaDoor.Cul
