/- Part of a proof by an abstract machine for the program's code: lemmas, without conditions of their own beyond those that each states. -/
import Derived.Test.YtibbgjafjhcemaaDoorM19
set_option linter.unusedVariables false
set_option linter.unusedSimpArgs false
namespace Go.Proofs.YtibbgjafjhcemaaDoor.Cul
open Go Go.RowKit
/-- A new variable of a drawn region that no slot is told of yet. -/
structure NewAt (base : Nat) (a : Act) (w : World) (Pr : Prot) (d b : Nat) (cs : List PV) : Prop where
  at_ : a.tmps[d]? = some (.pointer (some ⟨b, 0, none⟩))
  heap : ∃ T vs, w.heap[b]? = some (.cells vs.toArray T (0, 0)) ∧ RpL w Pr cs vs ∧ One vs
  lo : base ≤ b
  free : ∀ o, ¬ Pr b o
def isOn (listed : Array Bool) (j : Nat) : Prop := listed.getD j false = true
/-- The frame in the midst of a drawn region. -/
structure JJ (base : Nat) (w0 : World) (Pr0 : Prot) (N : Nat) (pin : Pins) (st : St) (n : Nat) (dOf : Nat → Nat) (ms : Nat → Made) (listed : Array Bool) (a : Act) (w : World) (sL : St) (Pr : Prot) (bk : Key → Nat) : Prop where
  inv : Inv base w Pr bk sL a N
  chain : Below base w0 w ∧ (∀ b o, b < base → Pr b o → Pr0 b o) ∧ KeepsOthers w0 w ∧ (∀ k b, pin.k k = some b → bk (.bx k) = b) ∧ (∀ b o v, Pr0 b o → w0.cell? ⟨b, o, none⟩ = some v → Pr b o ∧ w.cell? ⟨b, o, none⟩ = some v) ∧ ∀ ds, pin.ds = some ds → a.defers = ds
  bx : sL.bx = st.bx
  gr : sL.gr = st.gr
  on : ∀ j, j < n → isOn listed j → look sL.sl (dOf j) = some (hush (ms j).v) ∧ look sL.tg (dOf j) = some (ms j).tg
  off : ∀ t, (∀ j, j < n → isOn listed j → dOf j ≠ t) → look sL.sl t = look st.sl t ∧ look sL.tg t = look st.tg t
  new : ∀ j cs, j < n → isOn listed j → (ms j).v = .newp cs → ∃ b, NewAt base a w Pr (dOf j) b cs ∧ ∀ x, live sL x → bk x ≠ b
  apart : ∀ i j ci cj, i < n → j < n → i ≠ j → isOn listed i → isOn listed j → (ms i).v = .newp ci → (ms j).v = .newp cj → a.tmps[dOf i]? ≠ a.tmps[dOf j]?
section
variable {P : Program} {base : Nat} {w w0 : World} {Pr Pr0 : Prot} {bk : Key → Nat} {st sL : St} {a : Act} {N n : Nat} {dOf : Nat → Nat} {ms : Nat → Made} {listed : Array Bool} {pin : Pins}
theorem on_set {i j : Nat} (h : isOn (listed.setIfInBounds i true) j) : j = i ∨ isOn listed j := by
  by_cases e : i = j
  · exact .inl e.symm
  · unfold isOn at h; rw [getD_set_ne false e] at h; exact .inr h
theorem set_on {i j : Nat} (h : isOn listed j) : isOn (listed.setIfInBounds i true) j := getD_set_true h
theorem set_self {i : Nat} (h : i < listed.size) : isOn (listed.setIfInBounds i true) i := by
  unfold isOn; simp [h]
theorem JJ.next (H : JJ base w0 Pr0 N pin st n dOf ms listed a w sL Pr bk) {i : Nat} (hi : i < n) (hsz : n ≤ listed.size) (hoff : ¬ isOn listed i) (hinj : ∀ i j, i < n → j < n → dOf i = dOf j → i = j) (hd : dOf i < N)
    (hf1 : lookP st.gr (.s (dOf i)) = none) (hf2 : ¬ exAt st (dOf i)) {w' : World} {Pr' : Prot} {v : Value} (hf : Fw w Pr w' Pr') (hm : MadeOk base w' Pr' bk sL a { v := hush (ms i).v, gr := none, tg := (ms i).tg } v) (hx : isEx (ms i).v = false)
    (hnew : ∀ cs, (ms i).v = .newp cs → ∃ b, v = .pointer (some ⟨b, 0, none⟩) ∧ w.heap.size ≤ b ∧ (∃ T vs, w'.heap[b]? = some (.cells vs.toArray T (0, 0)) ∧ RpL w' Pr' cs vs ∧ One vs) ∧ ∀ o, ¬ Pr' b o) :
    ∃ sL' bk', JJ base w0 Pr0 N pin st n dOf ms (listed.setIfInBounds i true) (a.put (some (dOf i)) v) w' sL' Pr' bk' := by
  have I' := H.inv.fw hf
  have hN : dOf i < a.tmps.size := by rw [I'.size]; exact hd
  have hno : ∀ j, j < n → isOn listed j → dOf j ≠ dOf i := fun j hj hl e => hoff (hinj j i hj hi e ▸ hl)
  have hLi := H.off (dOf i) hno
  have hf2' : ¬ exAt sL (dOf i) := fun ⟨sz, m, c, h⟩ => hf2 ⟨sz, m, c, hLi.1 ▸ h⟩
  have hexm : ∀ sz m c, hush (ms i).v ≠ .ex sz m c := fun sz m c e => by
    cases hv : (ms i).v <;> rw [hv] at e hx <;> simp [hush, isEx] at e hx
  obtain ⟨bk', I2, hl2, hbk⟩ := I'.putD hd (by rw [H.gr]; exact hf1) hf2' hm rfl hexm
  have hold : ∀ j, j < n → isOn listed j → (a.put (some (dOf i)) v).tmps[dOf j]? = a.tmps[dOf j]? := fun j hj hl => by rw [put_get hN, if_neg (hno j hj hl)]
  refine ⟨_, bk', I2, ⟨H.chain.1.trans (hf.bel.mono H.inv.hb), fun b o hb h => H.chain.2.1 b o hb (hf.old b o (Nat.lt_of_lt_of_le hb H.inv.hb) h), H.chain.2.2.1.trans hf.ko, fun k b e => (hbk k).trans (H.chain.2.2.2.1 k b e), fun b o v h1 h2 => by
    obtain ⟨h3, h4⟩ := H.chain.2.2.2.2.1 b o v h1 h2
    have hkp := hf.kp H.inv.prot
    exact ⟨hkp.pr b o h3, (hkp.cell b o h3).trans h4⟩, H.chain.2.2.2.2.2⟩, H.bx, H.gr, ?_, ?_, ?_, ?_⟩
  · intro j hj hl
    rw [look_putD, lookT_putD]
    rcases on_set hl with rfl | hl
    · rw [if_pos rfl, if_pos rfl]; exact ⟨rfl, rfl⟩
    · rw [if_neg (hno j hj hl), if_neg (hno j hj hl)]; exact H.on j hj hl
  · intro t ht
    have h1 : t ≠ dOf i := fun e => ht i hi (set_self (by omega)) e.symm
    rw [look_putD, lookT_putD, if_neg h1, if_neg h1]
    exact H.off t (fun j hj hl => ht j hj (set_on hl))
  · intro j cs hj hl hv
    rcases on_set hl with rfl | hl
    · obtain ⟨b, h1, h2, h3, h4⟩ := hnew cs hv
      refine ⟨b, ⟨by rw [put_get hN, if_pos rfl, h1], h3, Nat.le_trans H.inv.hb h2, h4⟩, fun x hx e => ?_⟩
      obtain ⟨h5, h6⟩ := hl2 x hx
      have := (H.inv.own x h5).2
      omega
    · obtain ⟨b, hn, hfr⟩ := H.new j cs hj hl hv
      obtain ⟨T, vs, h1, h2, h3⟩ := hn.heap
      have hblt : b < w.heap.size := (Array.getElem?_eq_some_iff.1 h1).1
      refine ⟨b, ⟨by rw [hold j hj hl]; exact hn.at_, ⟨T, vs, (hf.heap hblt).trans h1, RpL.mono (hf.kp H.inv.prot) h2, h3⟩, hn.lo, fun o h => hn.free o (hf.old b o hblt h)⟩, fun x hx e => ?_⟩
      obtain ⟨h5, h6⟩ := hl2 x hx
      exact hfr x h5 (h6 ▸ e)
  · intro p q cp cq hp hq hpq hlp hlq hvp hvq
    have fresh : ∀ j cj, j < n → isOn listed j → (ms j).v = .newp cj → ∀ ci, (ms i).v = .newp ci → (some v : Option Value) ≠ a.tmps[dOf j]? := by
      intro j cj hj hl hv ci hvi e
      obtain ⟨b, h1, h2, _⟩ := hnew ci hvi
      obtain ⟨b2, hn, _⟩ := H.new j cj hj hl hv
      obtain ⟨T, vs, h3, _⟩ := hn.heap
      have hblt : b2 < w.heap.size := (Array.getElem?_eq_some_iff.1 h3).1
      rw [hn.at_, h1] at e
      have e2 : b = b2 := by simp at e
      omega
    rcases on_set hlp with e1 | hlp'
    · rcases on_set hlq with e2 | hlq'
      · exact absurd (e1.trans e2.symm) hpq
      · rw [hold q hq hlq', e1, put_get hN, if_pos rfl]
        exact fresh q cq hq hlq' hvq cp (e1 ▸ hvp)
    · rcases on_set hlq with e2 | hlq'
      · rw [hold p hp hlp', e2, put_get hN, if_pos rfl]
        exact fun e => fresh p cp hp hlp' hvp cq (e2 ▸ hvq) e.symm
      · rw [hold q hq hlq', hold p hp hlp']
        exact H.apart p q cp cq hp hq hpq hlp' hlq' hvp hvq
/-- What an operation of the head owes, at the moment at which it runs. -/
theorem quietD_ok {call : Nat → List PV → Option RV} (hC : CallOk P call) (I : Inv base w Pr bk sL a N) {o : Oper} {sT : St} {m : Made} (S : Sees o sT sL) (h : quietD P call o sT = some m) (K : Act → World → Prop) (Q : Exit → Act → World → Prop)
    (hK : ∀ v w' Pr', Fw w Pr w' Pr' → MadeOk base w' Pr' bk sL a { v := hush m.v, gr := none, tg := m.tg } v → isEx m.v = false →
      (∀ cs, m.v = .newp cs → ∃ b, v = .pointer (some ⟨b, 0, none⟩) ∧ w.heap.size ≤ b ∧ (∃ T vs, w'.heap[b]? = some (.cells vs.toArray T (0, 0)) ∧ RpL w' Pr' cs vs ∧ One vs) ∧ ∀ o, ¬ Pr' b o) → K (a.put o.dst v) w') : o.wp P a w K Q := by
  have asg : ∀ x av, o.op = .assign x → sT.ev x = some av → (∀ cs, av ≠ .newp cs) → isEx av = false → m = { v := av } → o.wp P a w K Q := by
    intro x av ho he hn hx hm
    have he' := S.ev x (by simp [ho, Op.operands]) av he hn
    have hrun : (execOp a.eval o).run P w = .ok (.value (a.eval x)) w := by simp [execOp, ho]
    refine wp_value hrun (hK _ _ _ (Fw.refl I.prot) ?_ (by rw [hm]; exact hx) (fun cs e => by rw [hm] at e; exact absurd e (hn cs)))
    obtain ⟨t, hr⟩ := ev_rp I he'
    have hh : hush av = av := by cases av <;> first | rfl | exact absurd rfl (hn _)
    rw [hm, hh]
    exact madeOk_av (fun sz n cs e => by subst e; simp [isEx] at hx) hr
  have other : ∀ m0, quiet P call o sT = some m0 → isEx m0.v = false → m = { m0 with gr := none } → o.wp P a w K Q := by
    intro m0 hq hx hm
    refine quiet_ok hC I (quiet_sees S hq) K Q fun v w' Pr' hf hmo => ?_
    have hnx : ∀ sz n cs, m0.v ≠ .ex sz n cs := fun sz n cs e => by rw [e] at hx; simp [isEx] at hx
    have hnn : ∀ cs, m0.v ≠ .newp cs := fun cs e => by have := hmo.val hnx 0; rw [e] at this; exact this
    have hh : hush m0.v = m0.v := by cases e : m0.v <;> first | rfl | exact absurd e (hnn _)
    subst hm
    refine hK v w' Pr' hf ⟨fun h t => by simp only [hh] at h ⊢; exact hmo.val h t, fun sz n cs e => by simp only [hh] at e; exact absurd e (hnx sz n cs), fun z e => by simp at e, hmo.tg⟩ hx (fun cs e => absurd e (hnn cs))
  unfold quietD at h
  split at h
  · rename_i x ho
    split at h
    · rename_i p he; simp only [Option.some.injEq] at h; exact asg x _ ho he (by simp) rfl h.symm
    · rename_i k off he; simp only [Option.some.injEq] at h; exact asg x _ ho he (by simp) rfl h.symm
    · rename_i f caps he; simp only [Option.some.injEq] at h; exact asg x _ ho he (by simp) rfl h.symm
    · simp at h
  · rename_i t ho
    simp only [Option.map_eq_some_iff] at h
    obtain ⟨z, hz, rfl⟩ := h
    obtain ⟨i, zv, hi, hzv, hzr⟩ := zeroT_rp (w := w) (Pr := Pr) hz
    obtain ⟨hc1, hc2⟩ := hzr.cells_rp (notTup_ne (zeroT_notTup hz))
    have hf := fw_alloc0 I (.cells zv.cells t)
    have he : (execOp a.eval o).run P w = .ok (.value (.pointer (some ⟨w.heap.size, 0, none⟩))) (w.alloc (.cells zv.cells t)) := by
      simp only [execOp, ho]
      refine run_v ?_
      simp [Instr.alloc, zeroValue, typeInfo, hi, hzv, run_newVar]
    have hk := hK (.pointer (some ⟨w.heap.size, 0, none⟩)) _ _ hf ⟨fun _ _ => trivial, fun _ _ _ e => by simp [hush] at e, fun z e => by simp at e, fun q e => by simp at e⟩ rfl (fun cs e => by
      cases e
      refine ⟨w.heap.size, rfl, Nat.le_refl _, ⟨t, zv.cells.toList, by rw [heap_alloc], RpL.mono (hf.kp I.prot) hc1, hc2⟩, fun o h => by have := I.prot _ _ h; omega⟩)
    unfold Oper.wp
    rw [he]
    exact hk
  · simp only [Option.bind_eq_some_iff] at h
    obtain ⟨m0, hm0, h⟩ := h
    split at h
    · simp at h
    · rename_i hx
      simp only [Option.some.injEq] at h
      exact other m0 hm0 (by simpa using hx) h.symm
end
end Go.Proofs.YtibbgjafjhcemaaDoor.Cul
