/- Part of a proof by an abstract machine for the program's code: lemmas, without conditions of their own beyond those that each states. -/
import Derived.Test.YtibbgjafjhcemaaDoorM3
set_option linter.unusedVariables false
set_option linter.unusedSimpArgs false
namespace Go.Proofs.YtibbgjafjhcemaaDoor.Cul
open Go Go.RowKit

theorem put_get {a : Act} {d : Nat} {v : Value} (h : d < a.tmps.size) (t : Nat) : (a.put (some d) v).tmps[t]? = if t = d then some v else a.tmps[t]? := by
  simp only [Act.put]
  by_cases e : t = d
  · subst e; simp [Array.getElem?_setIfInBounds_self_of_lt, h]
  · rw [if_neg e, Array.getElem?_setIfInBounds_ne (Ne.symm e)]

structure MadeOk (base : Nat) (w : World) (Pr : Prot) (bk : Key → Nat) (st : St) (a : Act) (m : Made) (v : Value) : Prop where
  val : (∀ sz n cs, m.v ≠ .ex sz n cs) → ∀ t, RpA st a w Pr bk t m.v v
  ex : ∀ sz n cs, m.v = .ex sz n cs → m.gr = none ∧ ∃ (b o cap : Nat) (vs : List Value), v = .slice (some ⟨b, o, none⟩) n cap ∧ RpL w Pr cs vs ∧ One vs ∧ cs.length = n * sz ∧ w.rangeAt b o vs ∧ Room w Pr b o n cap sz ∧
    (∀ o', ¬ Pr b o') ∧ base ≤ b ∧ b < w.heap.size ∧ ∀ x, live st x → bk x ≠ b
  gr : ∀ z, m.gr = some z → ∃ b o n cap cs, m.v = .pv (.sl z n cs) ∧ v = .slice (some ⟨b, o, none⟩) n cap ∧ Room w Pr b o n cap z ∧ base ≤ b ∧ b < w.heap.size ∧ ∀ x, live st x → bk x ≠ b
  tg : ∀ q, m.tg = some q → grAt st q → placeVal a w bk q = some v

section
variable {base : Nat} {w : World} {Pr : Prot} {bk : Key → Nat} {st : St} {a : Act} {N d : Nat} {m : Made} {v : Value}

theorem look_made (st : St) (d : Nat) (m : Made) (t : Nat) : look (st.made (some d) m).sl t = (if t = d then some m.v else look st.sl t).map fun av => if refersTo d av then .dead else av := look_put st d m.v t
theorem bx_made (st : St) (d : Nat) (m : Made) : (st.made (some d) m).bx = st.bx := rfl
theorem lookP_made (st : St) (d : Nat) (m : Made) (p : Pl) : lookP (st.made (some d) m).gr p = if p = .s d then m.gr else lookP st.gr p := by
  have h := lookP_put st d m.v p
  cases e : m.gr with
  | none => simp only [St.made, e]; rw [h]
  | some z =>
    simp only [St.made, e, lookP]
    by_cases hp : p = .s d
    · subst hp; simp
    · rw [if_neg (Ne.symm hp), h, if_neg hp, if_neg hp]
theorem lookT_made (st : St) (d : Nat) (m : Made) (t : Nat) : look (st.made (some d) m).tg t = if t = d then m.tg.map some else (look st.tg t).map fun q => if q = some (.s d) then none else q := by
  have h := lookT_put st d m.v t
  cases e : m.tg with
  | none => simp only [St.made, e]; rw [h]; simp
  | some p =>
    simp only [St.made, e, look]
    by_cases hp : t = d
    · subst hp; simp
    · rw [if_neg (Ne.symm hp), h, if_neg hp, if_neg hp]
/-- A value that was told of the frame is told of the frame behind a store into slot d. -/
theorem RpA.put (hN : d < a.tmps.size) {st' : St} {bk' : Key → Nat} {u : Value} (hb : ∀ k, bk' (.bx k) = bk (.bx k)) {t : Nat} (hs : bk' (.sx t) = bk (.sx t))
    (hex : ∀ x, x ≠ d → exAt st x → exAt st' x) {av : AV} (hr : refersTo d av = false) (h : RpA st a w Pr bk t av v) : RpA st' (a.put (some d) u) w Pr bk' t av v := by
  cases av with
  | pv p => exact h
  | bp k off => simp only [RpA] at h ⊢; rw [hb]; exact h
  | cl f caps =>
    obtain ⟨vs, h1, h2, h3⟩ := h
    refine ⟨vs, h1, h2, fun i c x hc hx => ?_⟩
    have := h3 i c x hc hx
    cases c with
    | pv p => exact this
    | bp k off => simp only [CapRp] at this ⊢; rw [hb]; exact this
  | ex sz n cs => simp only [RpA] at h ⊢; rw [hs]; exact h
  | xr x =>
    have hx : x ≠ d := by intro e; simp [refersTo, e] at hr
    exact ⟨by rw [put_get hN, if_neg hx]; exact h.1, hex x hx h.2⟩
  | xe x off =>
    have hx : x ≠ d := by intro e; simp [refersTo, e] at hr
    obtain ⟨⟨b, o, n, cap, h1, h2⟩, h3⟩ := h
    exact ⟨⟨b, o, n, cap, by rw [put_get hN, if_neg hx]; exact h1, h2⟩, hex x hx h3⟩
  | newp _ => exact h
  | dead => trivial

theorem Inv.made (I : Inv base w Pr bk st a N) (hd : d < N) (h : MadeOk base w Pr bk st a m v) :
    ∃ bk', Inv base w Pr bk' (st.made (some d) m) (a.put (some d) v) N ∧ ∀ x, x ≠ .sx d → bk' x = bk x := by
  have hN : d < a.tmps.size := by rw [I.size]; exact hd
  -- where the new row lies
  obtain ⟨b0, hb0, hb1⟩ : ∃ b0 : Nat, (∀ z, m.gr = some z → ∃ o n cap cs, m.v = .pv (.sl z n cs) ∧ v = .slice (some ⟨b0, o, none⟩) n cap ∧ Room w Pr b0 o n cap z ∧ base ≤ b0 ∧ b0 < w.heap.size ∧ ∀ x, live st x → bk x ≠ b0) ∧
      (∀ sz n cs, m.v = .ex sz n cs → m.gr = none ∧ ∃ (o cap : Nat) (vs : List Value), v = .slice (some ⟨b0, o, none⟩) n cap ∧ RpL w Pr cs vs ∧ One vs ∧ cs.length = n * sz ∧ w.rangeAt b0 o vs ∧ Room w Pr b0 o n cap sz ∧
        (∀ o', ¬ Pr b0 o') ∧ base ≤ b0 ∧ b0 < w.heap.size ∧ ∀ x, live st x → bk x ≠ b0) := by
    by_cases hx : ∃ sz n cs, m.v = .ex sz n cs
    · obtain ⟨sz, n, cs, hx⟩ := hx
      obtain ⟨h0, b, o, cap, vs, h1⟩ := h.ex sz n cs hx
      refine ⟨b, fun z hz => by rw [h0] at hz; simp at hz, fun sz' n' cs' hx' => ?_⟩
      rw [hx] at hx'; cases hx'
      exact ⟨h0, o, cap, vs, h1⟩
    · cases e : m.gr with
      | none => exact ⟨0, fun z hz => by simp at hz, fun sz n cs hx' => absurd ⟨sz, n, cs, hx'⟩ hx⟩
      | some z =>
        obtain ⟨b, o, n, cap, cs, h1⟩ := h.gr z e
        exact ⟨b, fun z' hz => by cases hz; exact ⟨o, n, cap, cs, h1⟩, fun sz n cs hx' => absurd ⟨sz, n, cs, hx'⟩ hx⟩
  -- the two ways in which slot d may own a row
  have hd0 : (∃ z, m.gr = some z) ∨ (∃ sz n cs, m.v = .ex sz n cs) → base ≤ b0 ∧ b0 < w.heap.size ∧ ∀ x, live st x → bk x ≠ b0 := by
    rintro (⟨z, hz⟩ | ⟨sz, n, cs, hx⟩)
    · obtain ⟨_, _, _, _, _, _, _, h1⟩ := hb0 z hz; exact h1
    · obtain ⟨_, _, _, _, _, _, _, _, _, _, _, h1⟩ := hb1 sz n cs hx; exact h1
  obtain ⟨bk', hk1, hk2⟩ : ∃ bk' : Key → Nat, (∀ x, x ≠ .sx d → bk' x = bk x) ∧ bk' (.sx d) = b0 := ⟨fun x => if x = .sx d then b0 else bk x, fun x hx => if_neg hx, if_pos rfl⟩
  have hbx : ∀ k, bk' (.bx k) = bk (.bx k) := fun k => hk1 _ (by simp)
  have hcx : ∀ k o, bk' (.cx k o) = bk (.cx k o) := fun k o => hk1 _ (by simp)
  have hsx : ∀ t, t ≠ d → bk' (.sx t) = bk (.sx t) := fun t ht => hk1 _ (by simpa using ht)
  -- what a slot held but for d's
  have hl : ∀ t av, look (st.made (some d) m).sl t = some av → av = .dead ∨ (refersTo d av = false ∧ ((t = d ∧ av = m.v) ∨ (t ≠ d ∧ look st.sl t = some av))) := by
    intro t av ht
    rw [look_made] at ht
    by_cases e : t = d
    · rw [if_pos e] at ht; simp only [Option.map_some, Option.some.injEq] at ht
      split at ht
      · exact .inl ht.symm
      · rename_i hr; exact .inr ⟨by rw [← ht]; simpa using hr, .inl ⟨e, ht.symm⟩⟩
    · rw [if_neg e] at ht
      cases hq : look st.sl t with
      | none => simp [hq] at ht
      | some x =>
        simp only [hq, Option.map_some, Option.some.injEq] at ht
        split at ht
        · exact .inl ht.symm
        · rename_i hr; exact .inr ⟨by rw [← ht]; simpa using hr, .inr ⟨e, by rw [ht]⟩⟩
  have hex : ∀ x, x ≠ d → exAt st x → exAt (st.made (some d) m) x := fun x hx ⟨sz, n, cs, hl⟩ => ⟨sz, n, cs, by rw [look_made, if_neg hx, hl]; rfl⟩
  -- what is live was live, or is the new row
  have hlive : ∀ x, live (st.made (some d) m) x → (x ≠ .sx d ∧ live st x) ∨ (x = .sx d ∧ ((∃ z, m.gr = some z) ∨ (∃ sz n cs, m.v = .ex sz n cs))) := by
    intro x hx
    cases x with
    | bx k => exact .inl ⟨by simp, hx⟩
    | sx t =>
      rcases hx with ⟨sz, n, cs, hq⟩ | ⟨z, hz⟩
      · rcases hl t _ hq with hq | ⟨_, ⟨e, hq⟩ | ⟨e, hq⟩⟩
        · simp at hq
        · exact .inr ⟨by rw [e], .inr ⟨sz, n, cs, hq.symm⟩⟩
        · exact .inl ⟨by simpa using e, .inl ⟨sz, n, cs, hq⟩⟩
      · rw [lookP_made] at hz
        by_cases e : t = d
        · subst e; rw [if_pos rfl] at hz; exact .inr ⟨rfl, .inl ⟨z, hz⟩⟩
        · rw [if_neg (by simpa using e)] at hz; exact .inl ⟨by simpa using e, .inr ⟨z, hz⟩⟩
    | cx k o =>
      obtain ⟨z, hz⟩ := hx
      rw [lookP_made, if_neg (by simp)] at hz
      exact .inl ⟨by simp, z, hz⟩
  refine ⟨bk', ?_, hk1⟩
  constructor
  · simp [Act.put, I.size]
  · exact I.defers
  · exact I.hb
  · exact I.prot
  · -- slots
    intro t av ht
    rcases hl t av ht with rfl | ⟨hr, ⟨e, rfl⟩ | ⟨e, hq⟩⟩
    · by_cases e : t = d
      · exact ⟨v, by rw [put_get hN, if_pos e], trivial⟩
      · cases hq : look st.sl t with
        | none => rw [look_made, if_neg e, hq] at ht; simp at ht
        | some x => obtain ⟨u, hu, _⟩ := I.slots t x hq; exact ⟨u, by rw [put_get hN, if_neg e]; exact hu, trivial⟩
    · subst e
      refine ⟨v, by rw [put_get hN, if_pos rfl], ?_⟩
      by_cases hx : ∃ sz n cs, m.v = .ex sz n cs
      · obtain ⟨sz, n, cs, hx⟩ := hx
        obtain ⟨_, o, cap, vs, h1, h2, h3, h4, h5, h6, h7, _⟩ := hb1 sz n cs hx
        rw [hx]; simp only [RpA]
        exact ⟨o, cap, vs, by rw [hk2]; exact h1, h2, h3, h4, by rw [hk2]; exact h5, by rw [hk2]; exact h6, by rw [hk2]; exact h7⟩
      · have hv := h.val (fun sz n cs e => hx ⟨sz, n, cs, e⟩) (t + 1)
        have := RpA.put (u := v) (st' := st.made (some t) m) (bk' := bk') hN hbx (hsx (t + 1) (by omega)) hex hr hv
        cases hm : m.v with
        | ex sz n cs => exact absurd ⟨sz, n, cs, hm⟩ hx
        | _ => rw [hm] at this; exact this
    · obtain ⟨u, hu, hv⟩ := I.slots t av hq
      exact ⟨u, by rw [put_get hN, if_neg e]; exact hu, RpA.put hN hbx (hsx t e) hex hr hv⟩
  · -- own
    intro x hx
    rcases hlive x hx with ⟨e, hx⟩ | ⟨rfl, hz⟩
    · rw [hk1 x e]; exact I.own x hx
    · obtain ⟨h4, h5, _⟩ := hd0 hz
      rw [hk2]; exact ⟨h4, h5⟩
  · -- inj
    intro x y hx hy he
    rcases hlive x hx with ⟨e, hx⟩ | ⟨rfl, hz⟩
    · rcases hlive y hy with ⟨e', hy⟩ | ⟨rfl, hz'⟩
      · rw [hk1 x e, hk1 y e'] at he; exact I.inj x y hx hy he
      · obtain ⟨_, _, h6⟩ := hd0 hz'
        rw [hk1 x e, hk2] at he; exact absurd he (h6 x hx)
    · rcases hlive y hy with ⟨e', hy⟩ | ⟨rfl, hz'⟩
      · obtain ⟨_, _, h6⟩ := hd0 hz
        rw [hk2, hk1 y e'] at he; exact absurd he.symm (h6 y hy)
      · rfl
  · -- boxes
    intro k cs hk
    rw [hbx]; exact I.boxes k cs hk
  · -- grs
    intro t z hz
    rw [lookP_made] at hz
    by_cases e : t = d
    · subst e; rw [if_pos rfl] at hz
      obtain ⟨o, n, cap, cs, h1, h2, h3, _⟩ := hb0 z hz
      exact ⟨o, n, cap, cs, by rw [look_made, if_pos rfl, h1]; rfl, by rw [put_get hN, if_pos rfl, hk2, h2], by rw [hk2]; exact h3⟩
    · rw [if_neg (by simpa using e)] at hz
      obtain ⟨o, n, cap, cs, h1, h2, h3⟩ := I.grs t z hz
      exact ⟨o, n, cap, cs, by rw [look_made, if_neg e, h1]; rfl, by rw [put_get hN, if_neg e, hsx t e]; exact h2, by rw [hsx t e]; exact h3⟩
  · -- grc
    intro k i z hz
    rw [lookP_made, if_neg (by simp)] at hz
    obtain ⟨o, n, cap, cs, bcs, h1, h2, h3, h4⟩ := I.grc k i z hz
    exact ⟨o, n, cap, cs, bcs, h1, h2, by rw [hbx, hcx]; exact h3, by rw [hcx]; exact h4⟩
  · -- tags
    intro t q ht hq
    rw [lookT_made] at ht
    by_cases e : t = d
    · subst e
      rw [if_pos rfl] at ht
      cases hm : m.tg with
      | none => simp [hm] at ht
      | some p =>
        simp only [hm, Option.map_some, Option.some.injEq] at ht; subst ht
        rw [put_get hN, if_pos rfl]
        by_cases hp : p = .s t
        · subst hp; simp [placeVal, put_get hN]
        · obtain ⟨z, hz⟩ := hq
          rw [lookP_made, if_neg hp] at hz
          have := h.tg p hm ⟨z, hz⟩
          cases p with
          | s u => simp only [placeVal] at this ⊢; rw [put_get hN, if_neg (by simpa using hp)]; exact this
          | c k o => simp only [placeVal] at this ⊢; rw [hbx]; exact this
    · rw [if_neg e] at ht
      cases hm : look st.tg t with
      | none => simp [hm] at ht
      | some p =>
        simp only [hm, Option.map_some, Option.some.injEq] at ht
        split at ht
        · simp at ht
        · rename_i hp
          subst ht
          have hp' : q ≠ .s d := fun e => hp (by rw [e])
          obtain ⟨z, hz⟩ := hq
          rw [lookP_made, if_neg hp'] at hz
          have := I.tags t q hm ⟨z, hz⟩
          rw [put_get hN, if_neg e, ← this]
          cases q with
          | s u => simp only [placeVal]; rw [put_get hN, if_neg (by simpa using hp')]
          | c k o => simp only [placeVal]; rw [hbx]
end
end Go.Proofs.YtibbgjafjhcemaaDoor.Cul
