/- Part of a proof by an abstract machine for the program's code: lemmas, without conditions of their own beyond those that each states. -/
import Derived.Test.YtibbgjafjhcemaaDoorM21
set_option linter.unusedVariables false
set_option linter.unusedSimpArgs false
namespace Go.Proofs.YtibbgjafjhcemaaDoor.Cul
open Go Go.RowKit
def hushX (x : Nat × AV) : Nat × AV := (x.1, hush x.2)
def hushSt (s : St) : St := { s with sl := s.sl.map hushX }
theorem look_hush (s : St) (t : Nat) : look (hushSt s).sl t = (look s.sl t).map hush := look_map hushX (fun _ v => hush v) (fun _ => rfl) s.sl t
theorem drop1_map {α β : Type} (f : Nat × α → Nat × β) (hf : ∀ x, (f x).1 = x.1) (d : Nat) : ∀ l : List (Nat × α), drop1 (l.map f) d = (drop1 l d).map f
  | [] => rfl
  | x :: l => by
    have h := hf x
    cases hx : f x with
    | mk k v =>
      rw [hx] at h
      obtain ⟨k', v'⟩ := x
      simp only at h; subst h
      simp only [List.map_cons, hx, drop1, drop1_map f hf d l]
      split <;> simp [hx]
theorem hush_kill (d : Nat) (x : Nat × AV) : killA d (hushX x) = hushX (killA d x) := by
  obtain ⟨k, v⟩ := x
  have h1 : refersTo d (hush v) = refersTo d v := by cases v <;> rfl
  show (k, if refersTo d (hush v) = true then AV.dead else hush v) = (k, hush (if refersTo d v = true then AV.dead else v))
  rw [h1]
  by_cases h : refersTo d v = true
  · rw [if_pos h, if_pos h]; rfl
  · rw [if_neg h, if_neg h]
theorem hush_put (s : St) (d k off : Nat) : (hushSt s).put (some d) (.bp k off) = hushSt (s.put (some d) (.bp k off)) := by
  simp only [St.put, hushSt, List.map_cons, St.mk.injEq, and_true, true_and]
  rw [drop1_map hushX (fun _ => rfl)]
  simp only [List.map_map]
  congr 1
  apply List.map_congr_left
  intro x _
  exact hush_kill d x
theorem noPtr_hush (d : Nat) (v : AV) : noPtr d (hush v) = noPtr d v := by cases v <;> rfl
theorem hush_newBox {s s' : St} {d : Nat} {cs : List PV} (h : s.newBox d cs = some s') : (hushSt s).newBox d cs = some (hushSt s') ∧ s'.sl = (s.put (some d) (.bp d 0)).sl := by
  simp only [St.newBox] at h ⊢
  rw [hush_put]
  have e : (drop1 (hushSt (s.put (some d) (.bp d 0))).sl d).all (fun x => noPtr d x.2) = (drop1 (s.put (some d) (.bp d 0)).sl d).all (fun x => noPtr d x.2) := by
    simp only [hushSt]
    rw [drop1_map hushX (fun _ => rfl), List.all_map]
    congr 1
    funext x
    exact noPtr_hush d x.2
  rw [e]
  split at h
  · rename_i hc
    rw [if_pos hc]
    simp only [Option.some.injEq] at h
    subst h
    exact ⟨rfl, rfl⟩
  · simp at h
section
variable {P : Program} {base : Nat} {w w0 : World} {Pr Pr0 : Prot} {bk : Key → Nat} {st sL : St} {a : Act} {N n : Nat} {dOf : Nat → Nat} {ms : Nat → Made} {sT : Nat → St} {listed : Array Bool} {ops : Array Oper} {call : Nat → List PV → Option RV} {pin : Pins}
/-- A frame with new variables that are not told yet. -/
structure SS (base : Nat) (w : World) (Pr : Prot) (bk : Key → Nat) (s : St) (a : Act) (N : Nat) : Prop where
  inv : Inv base w Pr bk (hushSt s) a N
  new : ∀ t cs, look s.sl t = some (.newp cs) → ∃ b, NewAt base a w Pr t b cs ∧ ∀ x, live (hushSt s) x → bk x ≠ b
  apart : ∀ t u cs ds, t ≠ u → look s.sl t = some (.newp cs) → look s.sl u = some (.newp ds) → a.tmps[t]? ≠ a.tmps[u]?
theorem SS.box {s s' : St} (H : SS base w Pr bk s a N) {d : Nat} {cs : List PV} (hd : look s.sl d = some (.newp cs)) (h : s.newBox d cs = some s') :
    (∃ bk', SS base w Pr bk' s' a N ∧ ∀ k, k ≠ d → bk' (.bx k) = bk (.bx k)) ∧ ∀ t ds, look s'.sl t = some (.newp ds) → t ≠ d ∧ look s.sl t = some (.newp ds) := by
  obtain ⟨h1, h2⟩ := hush_newBox h
  obtain ⟨b, hn, hfr⟩ := H.new d cs hd
  obtain ⟨T, vs, e1, e2, e3⟩ := hn.heap
  have hdN : d < N := by rw [← H.inv.size]; exact (Array.getElem?_eq_some_iff.1 hn.at_).1
  obtain ⟨bk', I', hl, hbk⟩ := H.inv.newBox hdN e1 hn.lo hfr hn.free e2 e3 h1
  rw [put_same hn.at_] at I'
  have hnp : ∀ t ds, look s'.sl t = some (.newp ds) → t ≠ d ∧ look s.sl t = some (.newp ds) := by
    intro t ds ht
    rw [h2, look_put] at ht
    by_cases e : t = d
    · rw [if_pos e] at ht; simp [refersTo] at ht
    · rw [if_neg e] at ht
      refine ⟨e, ?_⟩
      cases hq : look s.sl t with
      | none => simp [hq] at ht
      | some x =>
        simp only [hq, Option.map_some, Option.some.injEq] at ht
        split at ht
        · simp at ht
        · rw [ht]
  refine ⟨⟨bk', ⟨I', fun t ds ht => ?_, fun t u ds es htu ht hu => H.apart t u ds es htu (hnp t ds ht).2 (hnp u es hu).2⟩, hbk⟩, hnp⟩
  obtain ⟨htd, ht'⟩ := hnp t ds ht
  obtain ⟨b', hn', hfr'⟩ := H.new t ds ht'
  refine ⟨b', hn', fun x hx => ?_⟩
  rcases hl x hx with ⟨_, e⟩ | ⟨hx', e⟩
  · rw [e]
    intro eb
    refine H.apart t d ds cs htd ht' hd ?_
    rw [hn'.at_, hn.at_, eb]
  · rw [e]; exact hfr' x hx'
theorem settle_ok : ∀ (l : List Oper) {s s2 : St} {bk : Key → Nat}, SS base w Pr bk s a N → (∀ t cs, look s.sl t = some (.newp cs) → ∃ o ∈ l, o.dst = some t) → s.settle l = some s2 → ∃ bk', Inv base w Pr bk' s2 a N ∧ ∀ k, (∀ o ∈ l, o.dst ≠ some k) → bk' (.bx k) = bk (.bx k)
  | [], s, s2, bk, H, hn, h => by
    simp only [St.settle, Option.some.injEq] at h
    subst h
    have hh : ∀ t, look (hushSt s).sl t = look s.sl t := by
      intro t
      rw [look_hush]
      cases e : look s.sl t with
      | none => rfl
      | some v =>
        cases v with
        | newp cs => obtain ⟨o, ho, _⟩ := hn t cs e; simp at ho
        | _ => rfl
    refine ⟨bk, H.inv.less (fun t av ht => .inl ((hh t).trans ht)) (fun k cs hk => hk) (fun p z hp => ⟨hp, ?_⟩) (fun t q h => h) (fun t u _ hx => ?_), fun _ _ => rfl⟩
    · cases p with
      | s t => exact (hh t).symm
      | c k o => rfl
    · obtain ⟨sz, m, c, hx⟩ := hx
      exact ⟨sz, m, c, (hh u).symm.trans hx⟩
  | o :: l, s, s2, bk, H, hn, h => by
    simp only [St.settle, Option.bind_eq_some_iff] at h
    obtain ⟨s1, h1, h⟩ := h
    unfold St.settle1 at h1
    split at h1
    · rename_i d hd
      split at h1
      · rename_i cs hcs
        obtain ⟨⟨bk', H', hbk⟩, hnp⟩ := H.box hcs h1
        obtain ⟨bk2, I2, hb2⟩ := settle_ok l H' (fun t ds ht => by
          obtain ⟨htd, ht'⟩ := hnp t ds ht
          obtain ⟨o', ho', hd'⟩ := hn t ds ht'
          rcases List.mem_cons.1 ho' with rfl | ho'
          · rw [hd] at hd'; exact absurd (Option.some.inj hd').symm htd
          · exact ⟨o', ho', hd'⟩) h
        exact ⟨bk2, I2, fun k hk => (hb2 k (fun o' ho' => hk o' (List.mem_cons_of_mem _ ho'))).trans (hbk k (fun e => hk o (by simp) (by rw [hd, e])))⟩
      · rename_i hno
        simp only [Option.some.injEq] at h1; subst h1
        obtain ⟨bk2, I2, hb2⟩ := settle_ok l H (fun t ds ht => by
          obtain ⟨o', ho', hd'⟩ := hn t ds ht
          rcases List.mem_cons.1 ho' with rfl | ho'
          · rw [hd] at hd'
            rw [Option.some.inj hd'] at hno
            exact absurd ht (hno ds)
          · exact ⟨o', ho', hd'⟩) h
        exact ⟨bk2, I2, fun k hk => hb2 k (fun o' ho' => hk o' (List.mem_cons_of_mem _ ho'))⟩
    · rename_i hd
      simp only [Option.some.injEq] at h1; subst h1
      obtain ⟨bk2, I2, hb2⟩ := settle_ok l H (fun t ds ht => by
        obtain ⟨o', ho', hd'⟩ := hn t ds ht
        rcases List.mem_cons.1 ho' with rfl | ho'
        · rw [hd] at hd'; simp at hd'
        · exact ⟨o', ho', hd'⟩) h
      exact ⟨bk2, I2, fun k hk => hb2 k (fun o' ho' => hk o' (List.mem_cons_of_mem _ ho'))⟩
/-- All of the head has run. -/
theorem JJ.done (T : Told P call ops.toList st n dOf ms sT) (H : JJ base w0 Pr0 N pin st n dOf ms listed a w sL Pr bk) (hall : ∀ j, j < n → isOn listed j) (hinj : ∀ i j, i < n → j < n → dOf i = dOf j → i = j) : SS base w Pr bk (sT n) a N ∧ ∀ t cs, look (sT n).sl t = some (.newp cs) → ∃ j, j < n ∧ dOf j = t := by
  have hlk : ∀ t, look (hushSt (sT n)).sl t = look sL.sl t ∧ look (sT n).tg t = look sL.tg t ∧ ((∃ j, j < n ∧ dOf j = t ∧ look (sT n).sl t = some (ms j).v) ∨ (∀ cs, look (sT n).sl t ≠ some (.newp cs))) := by
    intro t
    rw [look_hush]
    by_cases h : ∃ j, j < n ∧ dOf j = t
    · obtain ⟨j, hj, e⟩ := h
      have h1 := T.done n (Nat.le_refl _) j hj
      have h2 := H.on j hj (hall j hj)
      rw [e] at h1 h2
      exact ⟨by rw [h1.1, h2.1]; rfl, by rw [h1.2, h2.2], .inl ⟨j, hj, e, h1.1⟩⟩
    · have hne : ∀ j, j < n → dOf j ≠ t := fun j hj e => h ⟨j, hj, e⟩
      have h1 := T.rest n (Nat.le_refl _) t hne
      have h2 := H.off t (fun j hj _ => hne j hj)
      have hnn : ∀ cs, look st.sl t ≠ some (.newp cs) := by
        intro cs e
        rw [← h2.1] at e
        obtain ⟨v, _, hr⟩ := H.inv.slots t _ e
        exact hr
      refine ⟨?_, by rw [h1.2, h2.2], .inr (fun cs => by rw [h1.1]; exact hnn cs)⟩
      rw [h1.1, h2.1]
      cases e : look st.sl t with
      | none => rfl
      | some v => cases v <;> first | rfl | exact absurd e (hnn _)
  have hb := T.bx n (Nat.le_refl _)
  have hbx : (hushSt (sT n)).bx = sL.bx := hb.1.trans H.bx.symm
  have hgr : (hushSt (sT n)).gr = sL.gr := hb.2.trans H.gr.symm
  have hlive : ∀ x, live (hushSt (sT n)) x → live sL x := by
    intro x hx
    cases x with
    | bx k => obtain ⟨cs, h⟩ := hx; exact ⟨cs, hbx ▸ h⟩
    | sx t =>
      rcases hx with ⟨sz, m, c, h⟩ | ⟨z, h⟩
      · exact .inl ⟨sz, m, c, (hlk t).1 ▸ h⟩
      · exact .inr ⟨z, hgr ▸ h⟩
    | cx k o => obtain ⟨z, h⟩ := hx; exact ⟨z, hgr ▸ h⟩
  have hnp : ∀ t cs, look (sT n).sl t = some (.newp cs) → ∃ j, j < n ∧ dOf j = t ∧ (ms j).v = .newp cs := by
    intro t cs ht
    rcases (hlk t).2.2 with ⟨j, hj, e, h⟩ | h
    · rw [ht] at h; exact ⟨j, hj, e, (Option.some.inj h).symm⟩
    · exact absurd ht (h cs)
  refine ⟨⟨?_, fun t cs ht => ?_, fun t u cs ds htu ht hu => ?_⟩, fun t cs ht => by obtain ⟨j, hj, e, _⟩ := hnp t cs ht; exact ⟨j, hj, e⟩⟩
  · refine H.inv.less (fun t av ht => .inl ((hlk t).1 ▸ ht)) (fun k cs hk => hbx ▸ hk) (fun p z hp => ⟨hgr ▸ hp, ?_⟩) (fun t q h => (hlk t).2.1 ▸ h) (fun t u _ hx => ?_)
    · cases p with
      | s t => exact (hlk t).1
      | c k o => show look (hushSt (sT n)).bx k = look sL.bx k; rw [hbx]
    · obtain ⟨sz, m, c, hx⟩ := hx
      exact ⟨sz, m, c, (hlk u).1.trans hx⟩
  · obtain ⟨j, hj, e, hv⟩ := hnp t cs ht
    obtain ⟨b, h1, h2⟩ := H.new j cs hj (hall j hj) hv
    exact ⟨b, e ▸ h1, fun x hx => h2 x (hlive x hx)⟩
  · obtain ⟨j, hj, e, hv⟩ := hnp t cs ht
    obtain ⟨k, hk, e', hv'⟩ := hnp u ds hu
    have hjk : j ≠ k := fun h => htu (by rw [← e, ← e', h])
    have := H.apart j k cs ds hj hk hjk (hall j hj) (hall k hk) hv hv'
    rw [e, e'] at this; exact this
end
end Go.Proofs.YtibbgjafjhcemaaDoor.Cul
