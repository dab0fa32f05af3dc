/- Part of a proof by an abstract machine for the program's code: lemmas, without conditions of their own beyond those that each states. -/
import Derived.Test.YtibbgjafjhcemaaDoorM10
set_option linter.unusedVariables false
set_option linter.unusedSimpArgs false
namespace Go.Proofs.YtibbgjafjhcemaaDoor.Cul
open Go Go.RowKit
section
variable {P : Program} {base : Nat} {w : World} {Pr : Prot} {bk : Key → Nat} {st : St} {a : Act} {N : Nat}
theorem look_mem {α : Type} : ∀ {l : List (Nat × α)} {t : Nat} {v : α}, look l t = some v → (t, v) ∈ l
  | [], t, v, h => by simp [look] at h
  | (k, u) :: l, t, v, h => by
    simp only [look] at h
    split at h
    · rename_i e; simp at h; subst h; subst e; simp
    · exact List.mem_cons_of_mem _ (look_mem h)
theorem lookP_notBox (gr : List (Pl × Nat)) (d : Nat) (q : Pl) : lookP (gr.filter (fun x => x.1.notBox d)) q = if q.notBox d then lookP gr q else none := lookP_filter (Pl.notBox d) gr q
theorem Inv.newBox (I : Inv base w Pr bk st a N) {d b : Nat} {cs : List PV} {vs : List Value} {T : TypeId} {st' : St} (hd : d < N) (hb : w.heap[b]? = some (.cells vs.toArray T (0, 0))) (hb1 : base ≤ b) (hb2 : ∀ x, live st x → bk x ≠ b) (hb3 : ∀ o, ¬ Pr b o)
    (hr : RpL w Pr cs vs) (h1 : One vs) (h : st.newBox d cs = some st') : ∃ bk', Inv base w Pr bk' st' (a.put (some d) (.pointer (some ⟨b, 0, none⟩))) N ∧ (∀ x, live st' x → (x = .bx d ∧ bk' x = b) ∨ (live st x ∧ bk' x = bk x)) ∧ ∀ k, k ≠ d → bk' (.bx k) = bk (.bx k) := by
  have hN : d < a.tmps.size := by rw [I.size]; exact hd
  have hblt : b < w.heap.size := (Array.getElem?_eq_some_iff.1 hb).1
  simp only [St.newBox] at h
  split at h
  · rename_i hall
    simp only [Option.some.injEq] at h
    obtain ⟨bk', hk1, hk2⟩ : ∃ bk' : Key → Nat, (∀ x, x ≠ .bx d → bk' x = bk x) ∧ bk' (.bx d) = b := ⟨fun x => if x = .bx d then b else bk x, fun x hx => if_neg hx, if_pos rfl⟩
    have hsl : ∀ t av, look st'.sl t = some av → (t = d ∧ av = .bp d 0) ∨ (t ≠ d ∧ (av = .dead ∧ (∃ av', look st.sl t = some av') ∨ (refersTo d av = false ∧ look st.sl t = some av)) ∧ noPtr d av = true) := by
      intro t av ht
      rw [← h] at ht; simp only at ht
      by_cases e : t = d
      · rw [look_put, if_pos e] at ht; simp [refersTo] at ht; exact .inl ⟨e, ht.symm⟩
      · refine .inr ⟨e, ?_, ?_⟩
        · rw [look_put, if_neg e] at ht
          cases hq : look st.sl t with
          | none => simp [hq] at ht
          | some x =>
            simp only [hq, Option.map_some, Option.some.injEq] at ht
            split at ht
            · exact .inl ⟨ht.symm, x, rfl⟩
            · rename_i hx; subst ht; exact .inr ⟨by simpa using hx, rfl⟩
        · have : look (drop1 (st.put (some d) (.bp d 0)).sl d) t = some av := by rw [look_drop1, if_neg e]; exact ht
          exact List.all_eq_true.1 hall _ (look_mem this)
    have hbx : ∀ k cs', look st'.bx k = some cs' → (k = d ∧ cs' = cs) ∨ (k ≠ d ∧ look st.bx k = some cs') := by
      intro k cs' hk
      rw [← h] at hk; simp only [look] at hk
      split at hk
      · rename_i e; simp at hk; exact .inl ⟨e.symm, hk.symm⟩
      · rename_i e; rw [look_drop1, if_neg (Ne.symm e)] at hk; exact .inr ⟨Ne.symm e, hk⟩
    have hgr : ∀ p z, lookP st'.gr p = some z → p ≠ .s d ∧ p.notBox d = true ∧ lookP st.gr p = some z := by
      intro p z hp
      rw [← h] at hp; simp only at hp
      rw [lookP_notBox, lookP_put] at hp
      split at hp
      · rename_i hnb
        split at hp
        · simp at hp
        · exact ⟨‹_›, hnb, hp⟩
      · simp at hp
    have hbk : ∀ k, k ≠ d → bk' (.bx k) = bk (.bx k) := fun k hk => hk1 _ (by simpa using hk)
    have hsx : ∀ t, bk' (.sx t) = bk (.sx t) := fun t => hk1 _ (by simp)
    have hcx : ∀ k o, bk' (.cx k o) = bk (.cx k o) := fun k o => hk1 _ (by simp)
    have hex : ∀ x, x ≠ d → exAt st x → exAt st' x := by
      rintro x hx ⟨sz, n, c, hl⟩
      refine ⟨sz, n, c, ?_⟩
      rw [← h]; simp only; rw [look_put, if_neg hx, hl]; rfl
    have hlive : ∀ x, live st' x → (x ≠ .bx d ∧ live st x) ∨ x = .bx d := by
      intro x hx
      cases x with
      | bx k =>
        obtain ⟨cs', hk⟩ := hx
        rcases hbx k cs' hk with ⟨rfl, _⟩ | ⟨hne, hk⟩
        · exact .inr rfl
        · exact .inl ⟨by simpa using hne, cs', hk⟩
      | sx t =>
        refine .inl ⟨by simp, ?_⟩
        rcases hx with ⟨sz, n, c, hl⟩ | ⟨z, hz⟩
        · rcases hsl t _ hl with ⟨_, e⟩ | ⟨_, ⟨e, _⟩ | ⟨_, e⟩, _⟩
          · simp at e
          · simp at e
          · exact .inl ⟨sz, n, c, e⟩
        · exact .inr ⟨z, (hgr _ z hz).2.2⟩
      | cx k o => obtain ⟨z, hz⟩ := hx; exact .inl ⟨by simp, z, (hgr _ z hz).2.2⟩
    refine ⟨bk', ?_, fun x hx => (hlive x hx).elim (fun h => .inr ⟨h.2, hk1 x h.1⟩) (fun h => .inl ⟨h, h ▸ hk2⟩), hbk⟩
    constructor
    · simp [Act.put, I.size]
    · exact I.defers
    · exact I.hb
    · exact I.prot
    · intro t av ht
      rcases hsl t av ht with ⟨rfl, rfl⟩ | ⟨hne, hav, hnp⟩
      · exact ⟨_, by rw [put_get hN, if_pos rfl], by simp only [RpA]; rw [hk2]⟩
      · rcases hav with ⟨rfl, av', hav'⟩ | ⟨href, hav⟩
        · obtain ⟨v, hv, _⟩ := I.slots t av' hav'
          exact ⟨v, by rw [put_get hN, if_neg hne]; exact hv, trivial⟩
        · obtain ⟨v, hv, hrp⟩ := I.slots t av hav
          refine ⟨v, by rw [put_get hN, if_neg hne]; exact hv, ?_⟩
          cases av with
          | pv p => exact hrp
          | bp k off => simp only [RpA] at hrp ⊢; rw [hbk k (by simpa [noPtr] using hnp)]; exact hrp
          | cl f caps =>
            obtain ⟨us, e1, e2, e3⟩ := hrp
            refine ⟨us, e1, e2, fun i c x hc hx => ?_⟩
            have e4 := e3 i c x hc hx
            cases c with
            | pv p => exact e4
            | bp k off =>
              have : k ≠ d := by
                have := List.all_eq_true.1 hnp (.bp k off) (List.mem_of_getElem? hc)
                simpa [capNot] using this
              simp only [CapRp] at e4 ⊢; rw [hbk k this]; exact e4
          | ex sz n c => simp only [RpA] at hrp ⊢; rw [hsx]; exact hrp
          | xr u =>
            have hu : u ≠ d := by intro e; simp [refersTo, e] at href
            exact ⟨by rw [put_get hN, if_neg hu]; exact hrp.1, hex u hu hrp.2⟩
          | xe u off =>
            have hu : u ≠ d := by intro e; simp [refersTo, e] at href
            obtain ⟨⟨b', o', n', cap', e1, e2⟩, e3⟩ := hrp
            exact ⟨⟨b', o', n', cap', by rw [put_get hN, if_neg hu]; exact e1, e2⟩, hex u hu e3⟩
          | newp _ => exact hrp
          | dead => trivial
    · intro x hx
      rcases hlive x hx with ⟨hne, hx⟩ | rfl
      · rw [hk1 x hne]; exact I.own x hx
      · rw [hk2]; exact ⟨hb1, hblt⟩
    · intro x y hx hy e
      rcases hlive x hx with ⟨hne, hx⟩ | rfl
      · rcases hlive y hy with ⟨hne', hy⟩ | rfl
        · rw [hk1 x hne, hk1 y hne'] at e; exact I.inj x y hx hy e
        · rw [hk1 x hne, hk2] at e; exact absurd e (hb2 x hx)
      · rcases hlive y hy with ⟨hne', hy⟩ | rfl
        · rw [hk2, hk1 y hne'] at e; exact absurd e.symm (hb2 y hy)
        · rfl
    · intro k cs' hk
      rcases hbx k cs' hk with ⟨rfl, rfl⟩ | ⟨hne, hk⟩
      · rw [hk2]; exact ⟨⟨T, vs, hb, hr, h1⟩, hb3⟩
      · rw [hbk k hne]; exact I.boxes k cs' hk
    · intro t z hz
      obtain ⟨hne, _, hz⟩ := hgr _ z hz
      have hne : t ≠ d := fun e => hne (by rw [e])
      obtain ⟨o, n, cap, c, e1, e2, e3⟩ := I.grs t z hz
      refine ⟨o, n, cap, c, ?_, by rw [put_get hN, if_neg hne, hsx]; exact e2, by rw [hsx]; exact e3⟩
      rw [← h]; simp only; rw [look_put, if_neg hne, e1]; rfl
    · intro k i z hz
      obtain ⟨_, hnb, hz⟩ := hgr _ z hz
      have hne : k ≠ d := by simpa [Pl.notBox] using hnb
      obtain ⟨o, n, cap, c, bcs, e1, e2, e3, e4⟩ := I.grc k i z hz
      refine ⟨o, n, cap, c, bcs, ?_, e2, by rw [hbk k hne, hcx]; exact e3, by rw [hcx]; exact e4⟩
      rw [← h]; simp only [look]; rw [if_neg (Ne.symm hne), look_drop1, if_neg hne]; exact e1
    · intro t q ht hq
      rw [← h] at ht; simp only at ht
      rw [look_map (killBox d) (fun _ x => x.bind fun p => if p.notBox d then some p else none) (fun _ => rfl), lookT_put] at ht
      by_cases e : t = d
      · simp [e] at ht
      · rw [if_neg e] at ht
        cases hm : look st.tg t with
        | none => simp [hm] at ht
        | some p =>
          simp only [hm, Option.map_some, Option.some.injEq, Option.bind_eq_some_iff] at ht
          obtain ⟨p', hp', ht⟩ := ht
          split at hp'
          · simp at hp'
          · rename_i hps
            subst hp'
            split at ht
            · rename_i hnb
              simp only [Option.some.injEq] at ht; subst ht
              obtain ⟨z, hz⟩ := hq
              obtain ⟨hnd, _, hz⟩ := hgr _ z hz
              rw [put_get hN, if_neg e, ← I.tags t _ hm ⟨z, hz⟩]
              cases p' with
              | s u => simp only [placeVal]; rw [put_get hN, if_neg (fun e => hnd (by rw [e]))]
              | c k o => simp only [placeVal]; rw [hbk k (by simpa [Pl.notBox] using hnb)]
            · simp at ht
  · simp at h
theorem fw_alloc0 (I : Inv base w Pr bk st a N) (ob : Obj) : Fw w Pr (w.alloc ob) Pr :=
  ⟨(Below.refl _ _).alloc (Nat.le_refl _) _, fun _ _ h => h, fun _ _ _ h => h, fun b o h => by have := I.prot b o h; simp; omega⟩
theorem run_newVar (T : TypeId) (v : Value) (w : World) : (newVar T v).run P w = .ok ⟨w.heap.size, 0, none⟩ (w.alloc (.cells v.cells T)) := rfl
theorem toList_toArray' (c : Array Value) : c = c.toList.toArray := by simp
/-- A new variable. -/
theorem eok_newBox (I : Inv base w Pr bk st a N) {o : Oper} {d : Nat} {T : TypeId} {v : Value} {p : PV} {st' : St} (hdst : o.dst = some d) (hd : d < N) (hv : Rp w Pr p v) (ht : isTup p = false)
    (he : (execOp a.eval o).run P w = .ok (.value (.pointer (some ⟨w.heap.size, 0, none⟩))) (w.alloc (.cells v.cells T))) (h : st.newBox d p.cells = some st') : EOk P base w Pr bk st a N o st' := by
  intro K Q hK
  have hf := fw_alloc0 I (.cells v.cells T)
  obtain ⟨hc1, hc2⟩ := hv.cells_rp (notTup_ne ht)
  obtain ⟨bk', hI, _, hbk⟩ := (I.fw hf).newBox (b := w.heap.size) (vs := v.cells.toList) (T := T) hd (by rw [heap_alloc]) I.hb (fun x hx e => by have := (I.own x hx).2; omega) (fun o h => by have := I.prot _ _ h; omega)
    (RpL.mono (hf.kp I.prot) hc1) hc2 h
  unfold Oper.wp
  rw [he]
  show K (a.put o.dst _) _
  rw [hdst]
  exact hK _ _ _ _ hI (hf.bel.mono I.hb) (hf.kp I.prot) (fun _ _ _ h => h) hf.ko (fun k hk => hbk k (fun e => hk (by rw [hdst, e]))) rfl
theorem eok_alloc (I : Inv base w Pr bk st a N) {o : Oper} {t : TypeId} {st' : St} (ho : o.op = .alloc t) (hN : ∀ d, o.dst = some d → d < N) (h : effect P o st = some st') : EOk P base w Pr bk st a N o st' := by
  simp only [effect, ho, Option.bind_eq_some_iff] at h
  obtain ⟨d, hd, z, hz, h⟩ := h
  obtain ⟨i, zv, hi, hzv, hzr⟩ := zeroT_rp (w := w) (Pr := Pr) hz
  refine eok_newBox (T := t) I hd (hN d hd) hzr (zeroT_notTup hz) ?_ h
  simp only [execOp, ho]
  refine run_v ?_
  simp [Instr.alloc, zeroValue, typeInfo, hi, hzv, run_newVar]
theorem eok_box (I : Inv base w Pr bk st a N) {o : Oper} {t : TypeId} {x : Operand} {st' : St} (ho : o.op = .box t x) (hN : ∀ d, o.dst = some d → d < N) (h : effect P o st = some st') : EOk P base w Pr bk st a N o st' := by
  simp only [effect, ho, Option.bind_eq_some_iff] at h
  obtain ⟨d, hd, p, hp, h⟩ := h
  split at h
  · rename_i hc
    refine eok_newBox (T := t) I hd (hN d hd) (pv_rp I hp) (by simpa using hc.2) ?_ h
    simp only [execOp, ho]
    refine run_v ?_
    simp [Instr.box, run_newVar]
  · simp at h
end
end Go.Proofs.YtibbgjafjhcemaaDoor.Cul
