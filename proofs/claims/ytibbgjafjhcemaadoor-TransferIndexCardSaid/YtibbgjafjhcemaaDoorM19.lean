/- Part of a proof by an abstract machine for the program's code: lemmas, without conditions of their own beyond those that each states. -/
import Derived.Test.YtibbgjafjhcemaaDoorM18
set_option linter.unusedVariables false
set_option linter.unusedSimpArgs false
namespace Go.Proofs.YtibbgjafjhcemaaDoor.Cul
open Go Go.RowKit
section
variable {P : Program} {base : Nat} {w : World} {Pr : Prot} {bk : Key → Nat} {st : St} {a : Act} {N : Nat}
theorem Inv.retag (I : Inv base w Pr bk st a N) {tg' : List (Nat × Option Pl)} (h : ∀ t q, look tg' t = some (some q) → grAt st q → look st.tg t = some (some q)) : Inv base w Pr bk { st with tg := tg' } a N :=
  ⟨I.size, I.defers, I.hb, I.prot, fun t av ht => (by
    obtain ⟨v, hv, hr⟩ := I.slots t av ht
    exact ⟨v, hv, by cases av <;> exact hr⟩), fun x hx => I.own x (by cases x <;> exact hx), fun x y hx hy => I.inj x y (by cases x <;> exact hx) (by cases y <;> exact hy), I.boxes, I.grs, I.grc, fun t q ht hq => I.tags t q (h t q ht hq) hq⟩
theorem look_putD (st : St) (d : Nat) (m : Made) (t : Nat) : look (st.putD (some d) m).sl t = if t = d then some m.v else look st.sl t := by
  simp only [St.putD, look]
  by_cases h : t = d
  · simp [h]
  · rw [if_neg (Ne.symm h), look_drop1, if_neg h, if_neg h]
theorem lookT_putD (st : St) (d : Nat) (m : Made) (t : Nat) : look (st.putD (some d) m).tg t = if t = d then some m.tg else look st.tg t := by
  simp only [St.putD, look]
  by_cases h : t = d
  · simp [h]
  · rw [if_neg (Ne.symm h), look_drop1, if_neg h, if_neg h]
theorem refersTo_ex {d t : Nat} {av : AV} {v : Value} (hr : refersTo d av = true) (h : RpA st a w Pr bk t av v) : exAt st d := by
  cases av with
  | xr u => simp only [refersTo, decide_eq_true_eq] at hr; subst hr; exact h.2
  | xe u off => simp only [refersTo, decide_eq_true_eq] at hr; subst hr; exact h.2
  | _ => simp [refersTo] at hr
/-- A value made in a drawn region. -/
theorem Inv.putD (I : Inv base w Pr bk st a N) {d : Nat} (hd : d < N) (hf1 : lookP st.gr (.s d) = none) (hf2 : ¬ exAt st d) {m : Made} {v : Value} (hm : MadeOk base w Pr bk st a m v) (hgr : m.gr = none) (hex : ∀ sz n cs, m.v ≠ .ex sz n cs) :
    ∃ bk', Inv base w Pr bk' (st.putD (some d) m) (a.put (some d) v) N ∧ (∀ x, live (st.putD (some d) m) x → live st x ∧ bk' x = bk x) ∧ ∀ k, bk' (.bx k) = bk (.bx k) := by
  obtain ⟨bk', I1, hbk⟩ := I.made hd hm
  have hmv := hm.val hex d
  have href : ∀ t av, (if t = d then some m.v else look st.sl t) = some av → refersTo d av = false := by
    intro t av h
    cases e : refersTo d av with
    | false => rfl
    | true =>
      exfalso
      split at h
      · simp only [Option.some.injEq] at h; subst h
        exact hf2 (refersTo_ex e hmv)
      · obtain ⟨u, _, hr⟩ := I.slots t av h
        exact hf2 (refersTo_ex e hr)
  have hsl : ∀ t, look (st.made (some d) m).sl t = look (st.putD (some d) m).sl t := by
    intro t
    rw [look_made, look_putD]
    cases e : (if t = d then some m.v else look st.sl t) with
    | none => rfl
    | some av => simp [href t av e]
  have hgrr : ∀ p, lookP (st.made (some d) m).gr p = lookP (st.putD (some d) m).gr p := by
    intro p
    rw [lookP_made]
    show _ = lookP st.gr p
    split
    · rename_i e; rw [e, hf1, hgr]
    · rfl
  have I2 := I1.retag (tg' := (st.putD (some d) m).tg) (fun t q h hq => by
    have hqd : q ≠ .s d := by
      intro e; subst e
      obtain ⟨z, hz⟩ := hq
      rw [lookP_made, if_pos rfl, hgr] at hz; simp at hz
    rw [lookT_putD] at h
    rw [lookT_made]
    split
    · rename_i e; rw [if_pos e] at h; simp only [Option.some.injEq] at h; rw [h]; rfl
    · rename_i e; rw [if_neg e] at h; rw [h]; simp [hqd])
  have I3 : Inv base w Pr bk' (st.putD (some d) m) (a.put (some d) v) N := by
    refine I2.less (fun t av h => .inl ?_) (fun k cs h => h) (fun p z h => ⟨?_, ?_⟩) (fun t q h => h) (fun t u _ hx => ?_)
    · show look (st.made (some d) m).sl t = some av
      rw [hsl]; exact h
    · show lookP (st.made (some d) m).gr p = some z
      rw [hgrr]; exact h
    · cases p with
      | s t => exact (hsl t).symm
      | c k o => rfl
    · obtain ⟨sz, n, cs, hx⟩ := hx
      exact ⟨sz, n, cs, (hsl u).symm.trans hx⟩
  refine ⟨bk', I3, fun x hx => ?_, fun k => hbk _ (by simp)⟩
  have hxd : x ≠ .sx d ∧ live st x := by
    cases x with
    | bx k => exact ⟨by simp, hx⟩
    | cx k o => exact ⟨by simp, hx⟩
    | sx t =>
      rcases hx with ⟨sz, n, cs, hx⟩ | ⟨z, hx⟩
      · rw [look_putD] at hx
        by_cases e : t = d
        · rw [if_pos e] at hx; exact absurd (Option.some.inj hx) (hex sz n cs)
        · rw [if_neg e] at hx; exact ⟨by simpa using e, .inl ⟨sz, n, cs, hx⟩⟩
      · by_cases e : t = d
        · subst e; exact absurd (show lookP st.gr (.s t) = some z from hx) (by rw [hf1]; simp)
        · exact ⟨by simpa using e, .inr ⟨z, hx⟩⟩
  exact ⟨hxd.2, hbk x hxd.1⟩
def hush : AV → AV
  | .newp _ => .dead
  | v => v
/-- The run in text order, told by what each operation made. -/
structure Told (P : Program) (call : Nat → List PV → Option RV) (ops : List Oper) (st : St) (n : Nat) (dOf : Nat → Nat) (ms : Nat → Made) (sT : Nat → St) : Prop where
  dst : ∀ i, i < n → ∃ o, ops[i]? = some o ∧ o.dst = some (dOf i)
  step : ∀ i, i < n → ∀ o, ops[i]? = some o → ∃ b, aWanted ops o (sT i) = some b ∧ (b = true → quietD P call o (sT i) = some (ms i)) ∧ (b = false → ms i = { v := undefA })
  done : ∀ i, i ≤ n → ∀ j, j < i → look (sT i).sl (dOf j) = some (ms j).v ∧ look (sT i).tg (dOf j) = some (ms j).tg
  rest : ∀ i, i ≤ n → ∀ t, (∀ j, j < i → dOf j ≠ t) → look (sT i).sl t = look st.sl t ∧ look (sT i).tg t = look st.tg t
  bx : ∀ i, i ≤ n → (sT i).bx = st.bx ∧ (sT i).gr = st.gr
theorem told {call : Nat → List PV → Option RV} {ops : List Oper} {s : St} {dOf : Nat → Nat} : ∀ (l : List Oper) (st : St), (∀ i o, l[i]? = some o → o.dst = some (dOf i)) → (∀ i j, i < l.length → j < l.length → dOf i = dOf j → i = j) →
    aopsD P call ops l st = some s → ∃ (ms : Nat → Made) (sT : Nat → St), sT l.length = s ∧ sT 0 = st ∧
      (∀ i, i < l.length → ∀ o, l[i]? = some o → ∃ b, aWanted ops o (sT i) = some b ∧ (b = true → quietD P call o (sT i) = some (ms i)) ∧ (b = false → ms i = { v := undefA })) ∧
      (∀ i, i ≤ l.length → ∀ j, j < i → look (sT i).sl (dOf j) = some (ms j).v ∧ look (sT i).tg (dOf j) = some (ms j).tg) ∧
      (∀ i, i ≤ l.length → ∀ t, (∀ j, j < i → dOf j ≠ t) → look (sT i).sl t = look st.sl t ∧ look (sT i).tg t = look st.tg t) ∧
      (∀ i, i ≤ l.length → (sT i).bx = st.bx ∧ (sT i).gr = st.gr) := by
  intro l
  -- from the back
  suffices H : ∀ (l : List Oper) (pre : List Oper) (st0 st : St) (ms : Nat → Made) (sT : Nat → St), (∀ i o, (pre ++ l)[i]? = some o → o.dst = some (dOf i)) → (∀ i j, i < (pre ++ l).length → j < (pre ++ l).length → dOf i = dOf j → i = j) →
      sT pre.length = st → sT 0 = st0 →
      (∀ i, i < pre.length → ∀ o, pre[i]? = some o → ∃ b, aWanted ops o (sT i) = some b ∧ (b = true → quietD P call o (sT i) = some (ms i)) ∧ (b = false → ms i = { v := undefA })) →
      (∀ i, i ≤ pre.length → ∀ j, j < i → look (sT i).sl (dOf j) = some (ms j).v ∧ look (sT i).tg (dOf j) = some (ms j).tg) →
      (∀ i, i ≤ pre.length → ∀ t, (∀ j, j < i → dOf j ≠ t) → look (sT i).sl t = look st0.sl t ∧ look (sT i).tg t = look st0.tg t) →
      (∀ i, i ≤ pre.length → (sT i).bx = st0.bx ∧ (sT i).gr = st0.gr) → aopsD P call ops l st = some s →
      ∃ (ms : Nat → Made) (sT : Nat → St), sT (pre ++ l).length = s ∧ sT 0 = st0 ∧
      (∀ i, i < (pre ++ l).length → ∀ o, (pre ++ l)[i]? = some o → ∃ b, aWanted ops o (sT i) = some b ∧ (b = true → quietD P call o (sT i) = some (ms i)) ∧ (b = false → ms i = { v := undefA })) ∧
      (∀ i, i ≤ (pre ++ l).length → ∀ j, j < i → look (sT i).sl (dOf j) = some (ms j).v ∧ look (sT i).tg (dOf j) = some (ms j).tg) ∧
      (∀ i, i ≤ (pre ++ l).length → ∀ t, (∀ j, j < i → dOf j ≠ t) → look (sT i).sl t = look st0.sl t ∧ look (sT i).tg t = look st0.tg t) ∧
      (∀ i, i ≤ (pre ++ l).length → (sT i).bx = st0.bx ∧ (sT i).gr = st0.gr) by
    intro st h1 h2 h
    have := H l [] st st (fun _ => { v := .dead }) (fun _ => st) (by simpa using h1) (by simpa using h2) rfl rfl (by simp) (fun i hi j hj => by simp at hi; omega) (fun i hi t _ => ⟨rfl, rfl⟩) (fun _ _ => ⟨rfl, rfl⟩) h
    simpa using this
  clear l
  intro l
  induction l with
  | nil =>
    intro pre st0 st ms sT h1 h2 e1 e2 p1 p2 p3 p4 h
    simp only [aopsD, Option.some.injEq] at h
    subst h
    simp only [List.append_nil]
    exact ⟨ms, sT, e1, e2, p1, p2, p3, p4⟩
  | cons o l ih =>
    intro pre st0 st ms sT h1 h2 e1 e2 p1 p2 p3 p4 h
    simp only [aopsD, Option.bind_eq_some_iff] at h
    obtain ⟨b, hb, h⟩ := h
    have hdo : o.dst = some (dOf pre.length) := h1 pre.length o (by simp)
    obtain ⟨mk, hmk, hrun⟩ : ∃ mk : Made, ((b = true → quietD P call o st = some mk) ∧ (b = false → mk = { v := undefA })) ∧ aopsD P call ops l (st.putD o.dst mk) = some s := by
      cases b with
      | true =>
        simp only [Option.bind_eq_some_iff] at h
        obtain ⟨m, hm, h⟩ := h
        exact ⟨m, ⟨fun _ => hm, fun h => by simp at h⟩, h⟩
      | false => exact ⟨_, ⟨fun h => by simp at h, fun _ => rfl⟩, h⟩
    rw [hdo] at hrun
    have hne : ∀ j, j < pre.length → dOf j ≠ dOf pre.length := fun j hj e => by
      have := h2 j pre.length (by simp; omega) (by simp) e
      omega
    obtain ⟨ms', hms1, hms2⟩ : ∃ ms' : Nat → Made, (∀ j, j < pre.length → ms' j = ms j) ∧ ms' pre.length = mk := ⟨fun j => if j < pre.length then ms j else mk, fun j hj => if_pos hj, if_neg (by omega)⟩
    obtain ⟨sT', hs1, hs2⟩ : ∃ sT' : Nat → St, (∀ j, j ≤ pre.length → sT' j = sT j) ∧ sT' (pre.length + 1) = st.putD (some (dOf pre.length)) mk := ⟨fun j => if j ≤ pre.length then sT j else st.putD (some (dOf pre.length)) mk, fun j hj => if_pos hj, if_neg (by omega)⟩
    have key := ih (pre ++ [o]) st0 (st.putD (some (dOf pre.length)) mk) ms' sT' (by simpa using h1) (by simpa using h2) (by simpa using hs2) (by rw [hs1 0 (by omega), e2])
      (fun i hi o' ho' => by
        simp only [List.length_append, List.length_singleton] at hi
        by_cases e : i = pre.length
        · subst e
          simp at ho'; subst ho'
          refine ⟨b, ?_, ?_, ?_⟩
          · rw [hs1 _ (Nat.le_refl _), e1]; exact hb
          · rw [hs1 _ (Nat.le_refl _), e1, hms2]; exact hmk.1
          · rw [hms2]; exact hmk.2
        · rw [List.getElem?_append_left (by omega)] at ho'
          rw [hs1 i (by omega), hms1 i (by omega)]
          exact p1 i (by omega) o' ho')
      (fun i hi j hj => by
        simp only [List.length_append, List.length_singleton] at hi
        by_cases e : i = pre.length + 1
        · subst e
          rw [hs2, look_putD, lookT_putD]
          by_cases ej : j = pre.length
          · subst ej; rw [if_pos rfl, if_pos rfl, hms2]; exact ⟨rfl, rfl⟩
          · rw [if_neg (hne j (by omega)), if_neg (hne j (by omega)), hms1 j (by omega), ← e1]
            exact p2 pre.length (Nat.le_refl _) j (by omega)
        · rw [hs1 i (by omega), hms1 j (by omega)]
          exact p2 i (by omega) j hj)
      (fun i hi t ht => by
        simp only [List.length_append, List.length_singleton] at hi
        by_cases e : i = pre.length + 1
        · subst e
          have h0 : t ≠ dOf pre.length := fun e => ht pre.length (by omega) e.symm
          rw [hs2, look_putD, lookT_putD, if_neg h0, if_neg h0, ← e1]
          exact p3 pre.length (Nat.le_refl _) t (fun j hj => ht j (by omega))
        · rw [hs1 i (by omega)]
          exact p3 i (by omega) t ht)
      (fun i hi => by
        simp only [List.length_append, List.length_singleton] at hi
        by_cases e : i = pre.length + 1
        · subst e
          rw [hs2]
          have := p4 pre.length (Nat.le_refl _)
          rw [e1] at this
          exact this
        · rw [hs1 i (by omega)]
          exact p4 i (by omega))
      hrun
    simpa using key
end
end Go.Proofs.YtibbgjafjhcemaaDoor.Cul
