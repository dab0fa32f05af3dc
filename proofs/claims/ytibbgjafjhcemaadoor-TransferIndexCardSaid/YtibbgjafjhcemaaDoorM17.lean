/- Part of a proof by an abstract machine for the program's code: lemmas, without conditions of their own beyond those that each states. -/
import Derived.Test.YtibbgjafjhcemaaDoorM16
set_option linter.unusedVariables false
set_option linter.unusedSimpArgs false
namespace Go.Proofs.YtibbgjafjhcemaaDoor.Cul
open Go Go.RowKit
section
variable {P : Program} {base : Nat} {w : World} {Pr : Prot} {bk : Key → Nat} {st : St} {a : Act} {N : Nat} {pin : Pins}
/-- The frame without the array that slot t owned. -/
theorem Inv.dropEx (I : Inv base w Pr bk st a N) {t sz n : Nat} {cs : List PV} (heq : look st.sl t = some (.ex sz n cs)) :
    Inv base w Pr bk { st with sl := (drop1 st.sl t).map (killA t) } a N ∧ ∀ x, live { st with sl := (drop1 st.sl t).map (killA t) } x → bk x ≠ bk (.sx t) := by
  have hlk : ∀ u, look (drop1 st.sl t) u = if u = t then none else look st.sl u := look_drop1 st.sl t
  have hgr0 : lookP st.gr (.s t) = none := by
    cases e : lookP st.gr (.s t) with
    | none => rfl
    | some z => obtain ⟨o', n', cap', cs', h1, _⟩ := I.grs t z e; rw [heq] at h1; simp at h1
  constructor
  · refine I.less (fun u av h => ?_) (fun k cs h => h) (fun q z h => ⟨h, ?_⟩) (fun t q h => h) (fun u x h hx => ?_)
    · simp only at h
      rw [look_map (killA t) (fun _ av => if refersTo t av then .dead else av) (fun _ => rfl), hlk] at h
      by_cases e : u = t
      · simp [e] at h
      · rw [if_neg e] at h
        cases hq : look st.sl u with
        | none => simp [hq] at h
        | some y =>
          simp only [hq, Option.map_some, Option.some.injEq] at h
          split at h
          · obtain ⟨v, hv, _⟩ := I.slots u y hq; exact .inr ⟨h.symm, v, hv⟩
          · exact .inl (by rw [h])
    · cases q with
      | s u =>
        simp only
        rw [look_map (killA t) (fun _ av => if refersTo t av then .dead else av) (fun _ => rfl), hlk]
        have e : u ≠ t := fun e => by subst e; rw [hgr0] at h; simp at h
        rw [if_neg e]
        obtain ⟨o', n', cap', cs', h1, _⟩ := I.grs u z h
        rw [h1]; rfl
      | c k o => rfl
    · simp only at h
      obtain ⟨sz', n', cs', hx⟩ := hx
      have hxt : x ≠ t := by
        intro e; subst e
        rcases h with h | ⟨off, h⟩ <;>
        · rw [look_map (killA x) (fun _ av => if refersTo x av then .dead else av) (fun _ => rfl)] at h
          cases hq : look (drop1 st.sl x) u with
          | none => simp [hq] at h
          | some y => simp only [hq, Option.map_some, Option.some.injEq] at h; split at h <;> simp_all [refersTo]
      refine ⟨sz', n', cs', ?_⟩
      simp only
      rw [look_map (killA t) (fun _ av => if refersTo t av then .dead else av) (fun _ => rfl), hlk, if_neg hxt, hx]; rfl
  · intro x hx e
    have hlx : live st x ∧ x ≠ .sx t := by
      cases x with
      | bx k => exact ⟨hx, by simp⟩
      | cx k o => exact ⟨hx, by simp⟩
      | sx u =>
        have hut : u ≠ t := by
          intro e2; subst e2
          rcases hx with ⟨_, _, _, hx⟩ | ⟨z, hx⟩
          · simp only at hx
            rw [look_map (killA u) (fun _ av => if refersTo u av then .dead else av) (fun _ => rfl), hlk, if_pos rfl] at hx; simp at hx
          · simp only at hx; rw [hgr0] at hx; simp at hx
        refine ⟨?_, by simpa using hut⟩
        rcases hx with ⟨sz', n', cs', hx⟩ | hx
        · simp only at hx
          rw [look_map (killA t) (fun _ av => if refersTo t av then .dead else av) (fun _ => rfl), hlk, if_neg hut] at hx
          cases hq : look st.sl u with
          | none => simp [hq] at hx
          | some y => simp only [hq, Option.map_some, Option.some.injEq] at hx; split at hx <;> simp_all [live, exAt]
        · exact .inr hx
    exact hlx.2 (I.inj x (.sx t) hlx.1 (.inl ⟨sz, n, cs, heq⟩) e)
theorem put_same {a : Act} {t : Nat} {v : Value} (h : a.tmps[t]? = some v) : a.put (some t) v = a := by
  have : a.tmps.setIfInBounds t v = a.tmps := by
    apply Array.ext_getElem?
    intro i
    by_cases e : t = i
    · subst e
      have hlt : t < a.tmps.size := (Array.getElem?_eq_some_iff.1 h).1
      rw [Array.getElem?_setIfInBounds_self_of_lt hlt, h]
    · rw [Array.getElem?_setIfInBounds_ne e]
  simp [Act.put, this]
theorem wr_refl (w : World) (g : Nat) (h : ∃ c T fz, w.heap[g]? = some (.cells c T fz)) : Wr w w g := ⟨rfl, rfl, rfl, rfl, fun _ _ => rfl, h⟩
/-- An own array is from here on only read. -/
theorem Inv.still1 (I : Inv base w Pr bk st a N) (t : Nat) : ∃ Pr' bk', Inv base w Pr' bk' (st.still1 t) a N ∧ Kp w Pr w Pr' ∧ (∀ b o, b < base → Pr' b o → Pr b o) ∧ ∀ k, bk' (.bx k) = bk (.bx k) := by
  unfold St.still1
  split
  · rename_i sz n cs heq
    obtain ⟨I2, hfree⟩ := I.dropEx heq
    obtain ⟨v, hv1, o, cap, vs, h1, h2, h3, h4, h5, h6, h7⟩ := I.slots t _ heq
    have hown := I.own (.sx t) (.inl ⟨sz, n, cs, heq⟩)
    have htN : t < N := by rw [← I.size]; exact (Array.getElem?_eq_some_iff.1 hv1).1
    have hlen := h2.length
    obtain ⟨Pr', hP'⟩ : ∃ Pr' : Prot, ∀ b' o', Pr' b' o' ↔ (Pr b' o' ∨ (b' = bk (.sx t) ∧ o ≤ o' ∧ o' < o + n * sz)) := ⟨fun b' o' => _, fun _ _ => Iff.rfl⟩
    have hK : Kp w Pr w Pr' := ⟨fun b o h => (hP' b o).2 (.inl h), fun _ _ _ => rfl⟩
    have I3 := I2.wr_free (wr_refl w (bk (.sx t)) (by obtain ⟨c, T, e, _⟩ := h6.there; exact ⟨c, T, _, e⟩)) hown.2 hfree hK (fun b' o' h hne => ((hP' b' o').1 h).resolve_right (fun h => hne h.1))
    have hm : MadeOk base w Pr' bk { st with sl := (drop1 st.sl t).map (killA t) } a { v := .pv (.sl sz n cs), gr := some sz } v := by
      refine ⟨fun _ _ => ?_, fun _ _ _ h => by simp at h, fun z hz => ?_, fun q h => by simp at h⟩
      · rw [h1]
        exact .sl (RpL.mono hK h2) h3 h4 h6.le h5 (fun i hi => (hP' _ _).2 (.inr ⟨rfl, by omega, by omega⟩))
      · simp only [Option.some.injEq] at hz; subst hz
        refine ⟨bk (.sx t), o, n, cap, cs, rfl, h1, ⟨h6.hz, h6.le, h6.there, fun o' ho => ?_⟩, hown.1, hown.2, hfree⟩
        rcases (hP' _ _).1 ho with ho | ho
        · exact absurd ho (h7 o')
        · omega
    obtain ⟨bk', I4, hbk⟩ := I3.made0 htN hm
    rw [put_same hv1] at I4
    exact ⟨Pr', bk', I4, hK, fun b o' hlt h => ((hP' b o').1 h).resolve_right (fun h => by omega), hbk⟩
  · exact ⟨Pr, bk, I, Kp.refl _ _, fun _ _ _ h => h, fun _ => rfl⟩
theorem Good.still1 {w0 : World} {Pr0 : Prot} (h : Good base w0 Pr0 N pin st a w) (t : Nat) : Good base w0 Pr0 N pin (st.still1 t) a w := by
  obtain ⟨Pr, bk, I, hb, hp, ho, hpn, hkc, hdf⟩ := h
  obtain ⟨Pr', bk', I', hk, hp', hbk⟩ := I.still1 t
  exact ⟨Pr', bk', I', hb, fun b o hlt h => hp b o hlt (hp' b o hlt h), ho, fun k b e => (hbk k).trans (hpn k b e), fun b o v h1 h2 => by
    obtain ⟨h3, h4⟩ := hkc b o v h1 h2
    exact ⟨hk.pr b o h3, h4⟩, hdf⟩
theorem Good.stills {w0 : World} {Pr0 : Prot} : ∀ (l : List Nat) {st : St}, Good base w0 Pr0 N pin st a w → Good base w0 Pr0 N pin (l.foldl St.still1 st) a w
  | [], _, h => h
  | t :: l, _, h => Good.stills l (h.still1 t)
theorem look_keepL (l : List (Nat × AV)) (t : Nat) : ∀ ks : List Nat, look (keepL l ks) t = (if ks.contains t then look l t else none).map fun av => if isRef av then .dead else av
  | [] => by simp [keepL, look]
  | k :: ks => by
    have ih := look_keepL l t ks
    simp only [keepL]
    by_cases e : k = t
    · subst e
      cases h : look l k with
      | none => simp only [ih]; split <;> simp_all
      | some v => simp [look, shedR]
    · have e2 : ((k :: ks).contains t) = ks.contains t := by
        have : (t == k) = false := by simpa using fun h => e h.symm
        rw [List.contains_cons, this, Bool.false_or]
      rw [e2]
      cases h : look l k with
      | none => simp only [ih]
      | some v => simp only [look]; rw [if_neg e]; exact ih
theorem look_keepB (l : List (Nat × List PV)) (t : Nat) : ∀ ks : List Nat, look (keepB l ks) t = if ks.contains t then look l t else none
  | [] => by simp [keepB, look]
  | k :: ks => by
    have ih := look_keepB l t ks
    simp only [keepB]
    by_cases e : k = t
    · subst e
      cases h : look l k with
      | none => simp only [ih]; split <;> simp_all
      | some v => simp [look]
    · have e2 : ((k :: ks).contains t) = ks.contains t := by
        have : (t == k) = false := by simpa using fun h => e h.symm
        rw [List.contains_cons, this, Bool.false_or]
      rw [e2]
      cases h : look l k with
      | none => simp only [ih]
      | some v => simp only [look]; rw [if_neg e]; exact ih
theorem lookP_app (l m : List (Pl × Nat)) (p : Pl) : lookP (l ++ m) p = (lookP l p).or (lookP m p) := by
  induction l with
  | nil => simp [lookP]
  | cons x l ih =>
    obtain ⟨k, v⟩ := x
    simp only [List.cons_append, lookP]
    split
    · simp
    · exact ih
theorem lookP_keepG (l : List (Pl × Nat)) (p : Pl) : ∀ ks : List Nat, lookP (keepG l ks) p = if p.kept ks then lookP l p else none
  | [] => by cases p <;> simp [keepG, lookP, Pl.kept]
  | k :: ks => by
    have ih := lookP_keepG l p ks
    simp only [keepG, lookP_app, ih]
    rw [lookP_filter (Pl.of k) l p]
    cases p with
    | s t =>
      by_cases e : t = k
      · subst e
        cases h : lookP l (.s t) <;> simp [Pl.of, Pl.kept]
      · have : (t == k) = false := by simpa using e
        simp [Pl.of, Pl.kept, e]
    | c t o =>
      by_cases e : t = k
      · subst e
        cases h : lookP l (.c t o) <;> simp [Pl.of, Pl.kept]
      · have : (t == k) = false := by simpa using e
        simp [Pl.of, Pl.kept, e]
theorem Good.keepOnly {w0 : World} {Pr0 : Prot} (h : Good base w0 Pr0 N pin st a w) (ks : List Nat) : Good base w0 Pr0 N pin (st.keepOnly ks) a w := by
  refine h.less fun Pr bk I => ?_
  have hl : ∀ t, look (st.keepOnly ks).sl t = (if ks.contains t then look st.sl t else none).map fun av => if isRef av then .dead else av := fun t => look_keepL st.sl t ks
  have hb : ∀ k, look (st.keepOnly ks).bx k = if ks.contains k then look st.bx k else none := fun k => look_keepB st.bx k ks
  have hg : ∀ p, lookP (st.keepOnly ks).gr p = if p.kept ks then lookP st.gr p else none := fun p => lookP_keepG st.gr p ks
  refine I.less (fun t av ht => ?_) (fun k cs hk => ?_) (fun p z hz => ?_) (fun t q ht => by simp [St.keepOnly, look] at ht) (fun t u ht _ => ?_)
  · rw [hl] at ht
    split at ht
    · cases hq : look st.sl t with
      | none => simp [hq] at ht
      | some x =>
        simp only [hq, Option.map_some, Option.some.injEq] at ht
        split at ht
        · obtain ⟨v, hv, _⟩ := I.slots t x hq; exact .inr ⟨ht.symm, v, hv⟩
        · exact .inl (by rw [ht])
    · simp at ht
  · rw [hb] at hk; split at hk
    · exact hk
    · simp at hk
  · rw [hg] at hz
    split at hz
    · rename_i hkp
      refine ⟨hz, ?_⟩
      cases p with
      | s t =>
        simp only [Pl.kept] at hkp
        obtain ⟨o, n, cap, cs, h1, _⟩ := I.grs t z hz
        show look (st.keepOnly ks).sl t = look st.sl t
        rw [hl, if_pos hkp, h1]; rfl
      | c k o =>
        simp only [Pl.kept] at hkp
        show look (st.keepOnly ks).bx k = look st.bx k
        rw [hb, if_pos hkp]
    · simp at hz
  · exfalso
    rcases ht with ht | ⟨off, ht⟩ <;>
    · rw [hl] at ht
      split at ht
      · cases hq : look st.sl t with
        | none => simp [hq] at ht
        | some x => simp only [hq, Option.map_some, Option.some.injEq] at ht; split at ht <;> simp_all [isRef]
      · simp at ht
end
end Go.Proofs.YtibbgjafjhcemaaDoor.Cul
