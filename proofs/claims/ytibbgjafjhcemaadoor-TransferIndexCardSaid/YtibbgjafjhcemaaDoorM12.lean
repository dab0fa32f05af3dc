/- Part of a proof by an abstract machine for the program's code: lemmas, without conditions of their own beyond those that each states. -/
import Derived.Test.YtibbgjafjhcemaaDoorM11
import Derived.Laws.CopyRow
set_option linter.unusedVariables false
set_option linter.unusedSimpArgs false
namespace Go.Proofs.YtibbgjafjhcemaaDoor.Cul
open Go Go.RowKit
section
variable {P : Program} {base : Nat} {w : World} {Pr : Prot} {bk : Key → Nat} {st : St} {a : Act} {N : Nat}
/-- One block's cells have turned. -/
structure Wr (w w' : World) (g : Nat) : Prop where
  os : w'.os = w.os
  tape : w'.tape = w.tape
  output : w'.output = w.output
  size : w'.heap.size = w.heap.size
  other : ∀ k, k ≠ g → w'.heap[k]? = w.heap[k]?
  row : ∃ c T fz, w.heap[g]? = some (.cells c T fz)
theorem wr_setRow (w : World) (g : Nat) (cs : Array Value) (h : ∃ c T fz, w.heap[g]? = some (.cells c T fz)) : Wr w (w.setRow g cs) g := ⟨rfl, rfl, rfl, by simp, fun k hk => setRow_other w g k cs hk, h⟩
theorem Wr.ko {w w' : World} {g : Nat} (W : Wr w w' g) : KeepsOthers w w' :=
  ⟨Nat.le_of_eq W.size.symm, fun k o h ho => by
    have : k ≠ g := fun e => by subst e; obtain ⟨c, T, fz, h2⟩ := W.row; rw [h] at h2; cases h2; simp [Obj.isCells] at ho
    exact (W.other k this).trans h⟩
theorem Mark.ko {base : Nat} {w w' : World} {d : Deferred} (h : Mark base w d) (k : KeepsOthers w w') : Mark base w' d := by
  obtain ⟨D, h1, h2, h3⟩ := h
  exact ⟨D, h1, k.same D _ h2 rfl, h3⟩
theorem Wr.below {w w' : World} {g B : Nat} (h : Wr w w' g) (hg : B ≤ g) : Below B w w' := ⟨h.os, h.tape, h.output, by rw [h.size]; exact Nat.le_refl _, fun k hk => h.other k (by omega)⟩
theorem RpA.wr {w' : World} {g t : Nat} {av : AV} {v : Value} (W : Wr w w' g) (k : Kp w Pr w' Pr) (hex : ∀ sz n cs, av = .ex sz n cs → bk (.sx t) ≠ g) (h : RpA st a w Pr bk t av v) : RpA st a w' Pr bk t av v := by
  cases av with
  | pv p => exact Rp.mono k h
  | bp k off => exact h
  | cl f caps => obtain ⟨vs, h1, h2, h3⟩ := h; exact ⟨vs, h1, h2, fun i c u hc hu => CapRp.mono k (h3 i c u hc hu)⟩
  | ex sz n cs =>
    obtain ⟨o, cap, vs, h1, h2, h3, h4, h5, h6, h7⟩ := h
    have hne := W.other _ (hex sz n cs rfl)
    exact ⟨o, cap, vs, h1, RpL.mono k h2, h3, h4, rangeAt_heap hne h5, ⟨h6.hz, h6.le, by obtain ⟨c, T, e1, e2⟩ := h6.there; exact ⟨c, T, hne.trans e1, e2⟩, h6.pr⟩, h7⟩
  | xr u => exact h
  | xe u off => exact h
  | newp _ => exact h
  | dead => exact h
theorem Room.wr {w' : World} {g b o n cap sz : Nat} (W : Wr w w' g) (hne : b ≠ g) (h : Room w Pr b o n cap sz) : Room w' Pr b o n cap sz :=
  ⟨h.hz, h.le, by obtain ⟨c, T, e1, e2⟩ := h.there; exact ⟨c, T, (W.other _ hne).trans e1, e2⟩, h.pr⟩
theorem lookP_out (gr : List (Pl × Nat)) (k off n : Nat) (q : Pl) : lookP (gr.filter (fun x => x.1.out k off n)) q = if q.out k off n then lookP gr q else none := lookP_filter (Pl.out k off n) gr q
theorem splice_get {α : Type} (cs : List α) (off : Nat) (new : List α) (h : off + new.length ≤ cs.length) (i : Nat) (hi : i < off ∨ off + new.length ≤ i) : (cs.take off ++ new ++ cs.drop (off + new.length))[i]? = cs[i]? := by
  rcases hi with hi | hi
  · rw [List.append_assoc, List.getElem?_append_left (by simp; omega), List.getElem?_take_of_lt hi]
  · rw [List.getElem?_append_right (by simp; omega), List.getElem?_drop]
    congr 1
    simp; omega
theorem Inv.setBox (I : Inv base w Pr bk st a N) {k off : Nat} {new : List PV} {vs : List Value} {st' : St} (h : st.setBox k off new = some st') (hr : RpL w Pr new vs) (h1 : One vs) :
    ∃ cur T, w.heap[bk (.bx k)]? = some (.cells cur T (0, 0)) ∧ off + vs.length ≤ cur.size ∧ base ≤ bk (.bx k) ∧ Kp w Pr (w.setRow (bk (.bx k)) (spliceV cur.toList off vs).toArray) Pr ∧
      Inv base (w.setRow (bk (.bx k)) (spliceV cur.toList off vs).toArray) Pr bk st' a N := by
  simp only [St.setBox, Option.bind_eq_some_iff] at h
  obtain ⟨cs, hk, h⟩ := h
  split at h
  · rename_i hle
    simp only [Option.some.injEq] at h
    obtain ⟨⟨T, us, hu1, hu2, hu3⟩, hu4⟩ := I.boxes k cs hk
    have hlen := hr.length
    have hlen2 := hu2.length
    have hown := I.own (.bx k) ⟨cs, hk⟩
    have hW := wr_setRow w (bk (.bx k)) (spliceV us off vs).toArray ⟨_, _, _, hu1⟩
    have hK : Kp w Pr (w.setRow (bk (.bx k)) (spliceV us off vs).toArray) Pr := ⟨fun _ _ h => h, fun b o hp => by
      have hne : b ≠ bk (.bx k) := fun e => hu4 o (by rw [← e]; exact hp)
      exact World.cell?_of_block (w := w) (hW.other b hne)⟩
    have hh : (w.setRow (bk (.bx k)) (spliceV us off vs).toArray).heap[bk (.bx k)]? = some (.cells (spliceV us off vs).toArray T (0, 0)) := setRow_heap w _ _ _ _ _ hu1
    have hne : ∀ x, live st x → x ≠ .bx k → bk x ≠ bk (.bx k) := fun x hx hxk e => hxk (I.inj x (.bx k) hx ⟨cs, hk⟩ e)
    refine ⟨us.toArray, T, hu1, by simp; omega, hown.1, by simpa using hK, ?_⟩
    have hbx : ∀ k' cs', look st'.bx k' = some cs' → (k' = k ∧ cs' = splice cs off new) ∨ (k' ≠ k ∧ look st.bx k' = some cs') := by
      intro k' cs' hq
      rw [← h] at hq; simp only [look] at hq
      split at hq
      · rename_i e; simp at hq; exact .inl ⟨e.symm, hq.symm⟩
      · rename_i e; rw [look_drop1, if_neg (Ne.symm e)] at hq; exact .inr ⟨Ne.symm e, hq⟩
    have hgr : ∀ p z, lookP st'.gr p = some z → p.out k off new.length = true ∧ lookP st.gr p = some z := by
      intro p z hp
      rw [← h] at hp; simp only at hp
      rw [lookP_out] at hp
      split at hp
      · exact ⟨‹_›, hp⟩
      · simp at hp
    have hlive : ∀ x, live st' x → live st x := by
      intro x hx
      cases x with
      | bx k' =>
        obtain ⟨cs', hq⟩ := hx
        rcases hbx k' cs' hq with ⟨rfl, _⟩ | ⟨_, hq⟩
        · exact ⟨cs, hk⟩
        · exact ⟨cs', hq⟩
      | sx t =>
        rcases hx with hx | ⟨z, hz⟩
        · rw [← h] at hx; exact .inl hx
        · exact .inr ⟨z, (hgr _ z hz).2⟩
      | cx k' o => obtain ⟨z, hz⟩ := hx; exact ⟨z, (hgr _ z hz).2⟩
    simp only [List.toList_toArray]
    constructor
    · exact I.size
    · exact ⟨fun d hd => (I.defers.1 d hd).ko hW.ko, I.defers.2⟩
    · simpa using I.hb
    · simpa using I.prot
    · intro t av ht
      have ht' : look st.sl t = some av := by rw [← h] at ht; exact ht
      obtain ⟨v, hv, hrp⟩ := I.slots t av ht'
      refine ⟨v, hv, ?_⟩
      have := RpA.wr hW hK (fun sz n c e => hne (.sx t) (.inl ⟨sz, n, c, by rw [← e]; exact ht'⟩) (by simp)) hrp
      rw [← h]
      cases av with
      | xr u => exact this
      | xe u off => exact this
      | _ => exact this
    · exact fun x hx => by simpa using I.own x (hlive x hx)
    · exact fun x y hx hy => I.inj x y (hlive x hx) (hlive y hy)
    · intro k' cs' hq
      rcases hbx k' cs' hq with ⟨rfl, rfl⟩ | ⟨hkk, hq⟩
      · refine ⟨⟨T, spliceV us off vs, hh, RpL.mono hK ?_, ?_⟩, hu4⟩
        · unfold splice spliceV; rw [hlen]; exact ((hu2.take off).app hr).app (hu2.drop _)
        · intro u hu
          unfold spliceV at hu
          simp only [List.mem_append] at hu
          rcases hu with (hu | hu) | hu
          · exact hu3 u (List.mem_of_mem_take hu)
          · exact h1 u hu
          · exact hu3 u (List.mem_of_mem_drop hu)
      · obtain ⟨⟨T', us', e1, e2, e3⟩, e4⟩ := I.boxes k' cs' hq
        exact ⟨⟨T', us', (hW.other _ (hne (.bx k') ⟨cs', hq⟩ (by simpa using hkk))).trans e1, RpL.mono hK e2, e3⟩, e4⟩
    · intro t z hz
      obtain ⟨_, hz⟩ := hgr _ z hz
      obtain ⟨o, n, cap, c, e1, e2, e3⟩ := I.grs t z hz
      exact ⟨o, n, cap, c, by rw [← h]; exact e1, e2, e3.wr hW (hne (.sx t) (.inr ⟨z, hz⟩) (by simp))⟩
    · intro k' i z hz
      obtain ⟨hout, hz⟩ := hgr _ z hz
      obtain ⟨o, n, cap, c, bcs, e1, e2, e3, e4⟩ := I.grc k' i z hz
      have e4' := e4.wr hW (hne (.cx k' i) ⟨z, hz⟩ (by simp))
      by_cases hkk : k' = k
      · subst hkk
        rw [hk] at e1; cases e1
        have hi : i < off ∨ off + new.length ≤ i := by
          simp [Pl.out] at hout; omega
        refine ⟨o, n, cap, c, splice cs off new, by rw [← h]; simp [look], by rw [← e2]; exact splice_get cs off new hle i hi, ?_, e4'⟩
        rw [← e3, cell_of_row _ _ _ _ _ _ hh, cell_of_row _ _ _ _ _ _ hu1]
        simp only [List.getElem?_toArray]
        exact splice_get us off vs (by omega) i (by omega)
      · refine ⟨o, n, cap, c, bcs, by rw [← h]; simp only [look]; rw [if_neg (Ne.symm hkk), look_drop1, if_neg hkk]; exact e1, e2, ?_, e4'⟩
        rw [← e3]; exact World.cell?_of_block (w := w) (hW.other _ (hne (.bx k') ⟨bcs, e1⟩ (by simpa using hkk)))
    · intro t q ht hq
      rw [← h] at ht; simp only at ht
      rw [look_map (killOut k off new.length) (fun _ x => x.bind fun p => if p.out k off new.length then some p else none) (fun _ => rfl)] at ht
      cases hm : look st.tg t with
      | none => simp [hm] at ht
      | some p =>
        simp only [hm, Option.map_some, Option.some.injEq, Option.bind_eq_some_iff] at ht
        obtain ⟨p', rfl, ht⟩ := ht
        split at ht
        · rename_i hout
          simp only [Option.some.injEq] at ht; subst ht
          obtain ⟨z, hz⟩ := hq
          obtain ⟨_, hz⟩ := hgr _ z hz
          rw [← I.tags t _ hm ⟨z, hz⟩]
          cases p' with
          | s u => rfl
          | c k' i =>
            simp only [placeVal]
            obtain ⟨o, n, cap, c, bcs, e1, e2, e3, e4⟩ := I.grc k' i z hz
            by_cases hkk : k' = k
            · subst hkk
              have hi : i < off ∨ off + new.length ≤ i := by simp [Pl.out] at hout; omega
              rw [cell_of_row _ _ _ _ _ _ hh, cell_of_row _ _ _ _ _ _ hu1]
              simp only [List.getElem?_toArray]
              exact splice_get us off vs (by omega) i (by omega)
            · exact World.cell?_of_block (w := w) (hW.other _ (hne (.bx k') ⟨bcs, e1⟩ (by simpa using hkk)))
        · simp at ht
  · simp at h
end
end Go.Proofs.YtibbgjafjhcemaaDoor.Cul
