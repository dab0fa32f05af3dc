/- Part of a proof by an abstract machine for the program's code: lemmas, without conditions of their own beyond those that each states. -/
import Derived.Test.YtibbgjafjhcemaaDoorM24d
set_option linter.unusedVariables false
set_option linter.unusedSimpArgs false
namespace Go.Proofs.YtibbgjafjhcemaaDoor.Cul
open Go Go.RowKit
def toExit : Xt → Exit
  | .normal => .normal
  | .exit id => .exit id
  | .ret => .ret
/-- What is told of the iterators. -/
def IterOk (P : Program) (it : Nat → List PV → Option (Nat × List (List PV))) : Prop :=
  ∀ f caps k xs, it f caps = some (k, xs) → HasBody P f ∧ ∀ (vs : List Value) (w : World) (Pr : Prot), (∀ b o, Pr b o → b < w.heap.size) → RpL w Pr caps vs →
    ∃ enc : Nat → List Value, (∀ i x, xs[i]? = some x → (enc i).length = k ∧ ∀ W Pr', RpL W Pr' x (enc i)) ∧ ∀ n, 1 ≤ n → Gives P n f vs.toArray (fun i => (enc i).toArray) xs.length Pr w
def jumpOf : Xt → Code
  | .normal => .skip
  | .exit id => .exit id
  | .ret => .ret
section
variable {pin : Pins} {P : Program} {base : Nat} {w w' w0 : World} {Pr Pr' Pr0 : Prot} {bk bk' : Key → Nat} {st st1 s2 : St} {a a' : Act} {N m : Nat} {ks : List Nat}
theorem zip_vals (ps : Array Nat) (vs : List Value) (tmps : Array Value) : (ps.zip vs.toArray).foldl (fun t (p, v) => t.setIfInBounds p v) tmps = putVals ps.toList vs tmps := by
  unfold putVals
  rw [← Array.foldl_toList, Array.toList_zip]
/-- A part of a loop's body, as the machine runs it. -/
def Part (P : Program) (base N : Nat) (m : Nat) (ks : List Nat) (c : Code) (f : St → Option (Xt × St)) : Prop :=
  ∀ (l : Nat) (w0 : World) (Pr0 : Prot) (pin : Pins) (st : St) (a : Act) (w : World) (x : Xt) (s : St), (∀ d, ks.contains d = true → pin.k d = none) → Good base w0 Pr0 N pin st a w → f st = some (x, s) →
    ∀ Q : Exit → Act → World → Prop, (∀ a' w', Good base w0 Pr0 N pin s a' w' → Q (toExit x) a' w') → c.wpIn (Fence.wide.inRound l) m P Q a w
theorem Good.renew {pin2 : Pins} (h : Good base w0 Pr0 N pin st a w) (hp : ∀ Pr bk, Inv base w Pr bk st a N → (∀ k b, pin.k k = some b → bk (.bx k) = b) → (∀ k b, pin2.k k = some b → bk (.bx k) = b)) (hd : ∀ ds, pin2.ds = some ds → a.defers = ds) :
    ∃ Pr bk, Inv base w Pr bk st a N ∧ Good base w Pr N pin2 st a w := by
  obtain ⟨Pr, bk, I, hb, ho, hko, hpn, hkc, hdf⟩ := h
  exact ⟨Pr, bk, I, Pr, bk, I, Below.refl _ _, fun _ _ _ h => h, KeepsOthers.refl _, hp Pr bk I hpn, fun _ _ _ h1 h2 => ⟨h1, h2⟩, hd⟩
/-- A frame that keeps what the iterator leans on. -/
def GoodP (base : Nat) (w0 : World) (Pr0 : Prot) (N : Nat) (pin : Pins) (Pi : Prot) (st : St) (a : Act) (w : World) : Prop :=
  ∃ Pr bk, Inv base w Pr bk st a N ∧ Below base w0 w ∧ (∀ b o, b < base → Pr b o → Pr0 b o) ∧ KeepsOthers w0 w ∧ (∀ k b, pin.k k = some b → bk (.bx k) = b) ∧ (∀ b o v, Pr0 b o → w0.cell? ⟨b, o, none⟩ = some v → Pr b o ∧ w.cell? ⟨b, o, none⟩ = some v) ∧ (∀ ds, pin.ds = some ds → a.defers = ds) ∧
    ∀ b o, Pi b o → Pr b o ∧ ∃ v, w.cell? ⟨b, o, none⟩ = some v
theorem GoodP.good {Pi : Prot} (h : GoodP base w0 Pr0 N pin Pi st a w) : Good base w0 Pr0 N pin st a w := by
  obtain ⟨Pr, bk, I, h1, h2, h3, h4, h5, h6, _⟩ := h
  exact ⟨Pr, bk, I, h1, h2, h3, h4, h5, h6⟩
theorem GoodP.turn {Pi : Prot} {ds : List Deferred} (hds : pin.ds = some ds) (hm : ∀ d ∈ ds, Mark base w0 d) (hbw : base ≤ w0.heap.size) (G : GoodP base w0 Pr0 N pin Pi st a w) {l : Nat} {o o' : Obj} (hl : w0.heap.size ≤ l) (ho : w.heap[l]? = some o) (hc : o.isCells = false) : GoodP base w0 Pr0 N pin Pi st a (w.putObj l o') := by
  obtain ⟨Pr, bk, I, hb, hp, hko, hpn, hkc, hdf, hPi⟩ := G
  have hg : w.grownBy (w.putObj l o') (some l) := grownBy_putObj' w l _
  have I2 := I.turn hg (r := l) (fun r' e => by cases e; rfl) ho hc (fun d hd e => by
    rw [hdf ds hds] at hd
    obtain ⟨D, e1, e2, _⟩ := hm d hd
    rw [e1] at e
    have : D = l := by simpa using e
    have := (Array.getElem?_eq_some_iff.1 e2).1
    omega)
  have hne : ∀ b i v, w.cell? ⟨b, i, none⟩ = some v → b ≠ l ∧ (w.putObj l o').cell? ⟨b, i, none⟩ = some v := fun b i v h4 => by
    have hbr : b ≠ l := fun e => by subst e; rw [cell_none ho hc] at h4; simp at h4
    exact ⟨hbr, (World.cell?_of_block (w := w) (a := ⟨b, i, none⟩) (World.putObj_heap_other hbr)).trans h4⟩
  refine ⟨_, bk, I2, hb.grown hg (Nat.le_trans hbw hb.size) (fun k e => by cases e; exact Nat.le_trans hbw hl), fun b o hlt h => hp b o hlt h.1, ⟨Nat.le_trans hko.size hg.size, fun k ob h hob => ?_⟩, hpn, fun b i v h1 h2 => ?_, hdf, fun b i h => ?_⟩
  · have h2 := hko.same k ob h hob
    refine (hg.block k (Array.getElem?_eq_some_iff.1 h2).1 (fun e => ?_)).trans h2
    have h5 := (Array.getElem?_eq_some_iff.1 h).1
    have h6 : k = l := by simpa using e
    omega
  · obtain ⟨h3, h4⟩ := hkc b i v h1 h2
    obtain ⟨h5, h6⟩ := hne b i v h4
    exact ⟨⟨h3, h5⟩, h6⟩
  · obtain ⟨h3, v, h4⟩ := hPi b i h
    obtain ⟨h5, h6⟩ := hne b i v h4
    exact ⟨⟨h3, h5⟩, v, h6⟩
theorem cell_lt {w : World} {b o : Nat} {v : Value} (h : w.cell? ⟨b, o, none⟩ = some v) : b < w.heap.size := by
  unfold World.cell? at h
  cases e : w.heap[b]? with
  | none => simp [e] at h
  | some ob => exact (Array.getElem?_eq_some_iff.1 e).1
theorem GoodP.grow {Pi : Prot} (hbw : base ≤ w0.heap.size) (G : GoodP base w0 Pr0 N pin Pi st a w) (hg : w.grownBy w' none) : GoodP base w0 Pr0 N pin (Pi.plus w w') st a w' := by
  obtain ⟨Pr, bk, I, hb, hp, hko, hpn, hkc, hdf, hPi⟩ := G
  have hbel : Below w.heap.size w w' := (Below.refl _ w).grown hg (Nat.le_refl _) (by simp)
  obtain ⟨Pr', hP'⟩ : ∃ Pr' : Prot, ∀ b o, Pr' b o ↔ (Pr b o ∨ (w.heap.size ≤ b ∧ b < w'.heap.size)) := ⟨fun b o => _, fun _ _ => Iff.rfl⟩
  have hf : Fw w Pr w' Pr' := ⟨hbel, fun b o h => (hP' b o).2 (.inl h), fun b o hb h => ((hP' b o).1 h).resolve_right (fun h => by omega), fun b o h => ((hP' b o).1 h).elim (fun h => Nat.lt_of_lt_of_le (I.prot b o h) hg.size) (fun h => h.2)⟩
  have hcell : ∀ b o v, w.cell? ⟨b, o, none⟩ = some v → w'.cell? ⟨b, o, none⟩ = some v := fun b o v h => (hbel.cell (p := ⟨b, o, none⟩) (cell_lt h)).trans h
  refine ⟨Pr', bk, I.fw hf, hb.grown hg (Nat.le_trans hbw hb.size) (by simp), fun b o hlt h => ?_, ⟨Nat.le_trans hko.size hg.size, fun k ob h hob => ?_⟩, hpn, fun b o v h1 h2 => ?_, hdf, fun b o h => ?_⟩
  · rcases (hP' b o).1 h with h | h
    · exact hp b o hlt h
    · have := hb.size; omega
  · have h2 := hko.same k ob h hob
    exact (hg.block k (Array.getElem?_eq_some_iff.1 h2).1 (by simp)).trans h2
  · obtain ⟨h3, h4⟩ := hkc b o v h1 h2
    exact ⟨(hP' b o).2 (.inl h3), hcell b o v h4⟩
  · rcases h with h | ⟨h1, v, h2⟩
    · obtain ⟨h3, v, h4⟩ := hPi b o h
      exact ⟨(hP' b o).2 (.inl h3), v, hcell b o v h4⟩
    · exact ⟨(hP' b o).2 (.inr ⟨h1, cell_lt h2⟩), v, h2⟩
theorem GoodP.less {Pi Pi' : Prot} (h : GoodP base w0 Pr0 N pin Pi st a w) (k : ∀ b o, Pi' b o → Pi b o) : GoodP base w0 Pr0 N pin Pi' st a w := by
  obtain ⟨Pr, bk, I, h1, h2, h3, h4, h5, h6, h7⟩ := h
  exact ⟨Pr, bk, I, h1, h2, h3, h4, h5, h6, fun b o h => h7 b o (k b o h)⟩
theorem rangeFunc_ok {it : Nat → List PV → Option (Nat × List (List PV))} (hI : IterOk P it) (h1 : 2 ≤ m) {asg body : Code} {fa fb : St → Option (Xt × St)} (hA : Part P base N (m - 1 - 1) ks asg fa) (hB : Part P base N (m - 1 - 1) ks body fb)
    (G : Good base w0 Pr0 N pin st a w) (hz : pin.ds = none) (hpn : ∀ d, ks.contains d = true → pin.k d = none) {g : Operand} {f : Nat} {caps : List PV} {ps : Array Nat} {xs : List (List PV)} (hps : ∀ p ∈ ps.toList, p < N) (hg : st.pv g = some (.fn f caps)) (hit : it f caps = some (ps.size, xs))
    {x : Xt} {st' : St} (h : arounds fa fb (st.shed ks) ps.toList xs (st.shed ks) = some (x, st')) {Q : Exit → Act → World → Prop} (hQ : ∀ a' w', Good base w0 Pr0 N pin st' a' w' → Q (toExit x) a' w') :
    (Code.rangeFunc g ps asg body).wpIn Fence.wide m P Q a w := by
  obtain ⟨Pr, bk, I, hb, hp, hko, hpin, hkc, _⟩ := G
  have Is := I.shed ks
  have S := shed_shed st ks
  generalize st.shed ks = st1 at h Is S
  obtain ⟨hbody, hit2⟩ := hI f caps ps.size xs hit
  have hfn := pv_rp I hg
  obtain ⟨vs, hgv, hrc⟩ : ∃ vs : List Value, a.eval g = .func (.func f) #[] vs.toArray ∧ RpL w Pr caps vs := by
    cases hv : a.eval g <;> rw [hv] at hfn <;> cases hfn
    exact ⟨_, rfl, by assumption⟩
  obtain ⟨enc, henc, hgives⟩ := hit2 vs w Pr I.prot hrc
  have heg : ∀ args w, (callFunc f args).run P w = .ok (.enter f args) w := by
    obtain ⟨fn, c, e1, e2, e3⟩ := hbody
    intro args w
    simp [callFunc, program, Sem.run, e1, e2, show ¬ fn.name = "runtime.NumGoroutine" from by simpa using e3]
  obtain ⟨pinL, hL⟩ : ∃ pinL : Pins, pinL = ⟨fun j => if ks.contains j then none else some (bk (.bx j)), some a.defers⟩ := ⟨_, rfl⟩
  obtain ⟨pinR, hR⟩ : ∃ pinR : Pins, pinR = ⟨fun j => if ks.contains j then none else some (bk (.bx j)), some []⟩ := ⟨_, rfl⟩
  have hRn : ∀ d, ks.contains d = true → pinR.k d = none := fun d hd => by rw [hR]; show (if ks.contains d = true then none else some _) = none; rw [if_pos hd]
  have mkpin : ∀ (bk2 : Key → Nat) (dd : Option (List Deferred)), (∀ k, ks.contains k = false → bk2 (.bx k) = bk (.bx k)) → ∀ k b, (⟨fun j => if ks.contains j then none else some (bk (.bx j)), dd⟩ : Pins).k k = some b → bk2 (.bx k) = b := by
    intro bk2 dd h2 k b e
    simp only at e
    split at e
    · simp at e
    · rename_i hc
      rw [h2 k (by simpa using hc)]; exact Option.some.inj e
  have unpin : ∀ (bk2 : Key → Nat) (dd : Option (List Deferred)), (∀ k b, (⟨fun j => if ks.contains j then none else some (bk (.bx j)), dd⟩ : Pins).k k = some b → bk2 (.bx k) = b) → ∀ k, ks.contains k = false → bk2 (.bx k) = bk (.bx k) := by
    intro bk2 dd h2 k hc
    exact h2 k _ (by show (if ks.contains k = true then none else some _) = some _; rw [if_neg (by rw [hc]; simp)])
  have hM : ∀ d ∈ a.defers, Mark base w d := I.defers.1
  have hI0g : ∀ A B : World, (∃ cur, arounds fa fb st1 ps.toList (xs.drop 0) cur = some (x, st') ∧ GoodP base w Pr N pinL (Pr.here w) (st1.after cur) a A) → A.grownBy B none → ∃ cur, arounds fa fb st1 ps.toList (xs.drop 0) cur = some (x, st') ∧ GoodP base w Pr N pinL (Pr.here w) (st1.after cur) a B :=
    fun A B ⟨cur, e, G2⟩ hg2 => ⟨cur, e, (G2.grow I.hb hg2).less fun b o h => .inl h⟩
  refine wpIn_rangeFunc_pos (N := xs.length) (enc := fun i => (enc i).toArray) (by omega) hgv heg (hgives (m - 1) (by omega))
    (fun k hk => by
      obtain ⟨y, hy⟩ : ∃ y, xs[k]? = some y := ⟨_, List.getElem?_eq_getElem hk⟩
      simpa using (henc k y hy).1)
    (fun k Pi W => ∃ cur, arounds fa fb st1 ps.toList (xs.drop k) cur = some (x, st') ∧ GoodP base w Pr N pinL Pi (st1.after cur) a W)
    (fun c W => c = jumpOf x ∧ x ≠ .normal ∧ Good base w Pr N pinL st' a W)
    (fun k Pi W l o o' ⟨cur, e, G2⟩ hl ho hc _ => ⟨cur, e, G2.turn (by rw [hL]) hM I.hb hl ho hc⟩)
    (fun c W l o o' ⟨e1, e2, G2⟩ hl ho hc _ => ⟨e1, e2, G2.own (by rw [hL]) hM I.hb (grownBy_putObj' W l o') (fun r e => by cases e; exact ⟨hl, o, ho, hc⟩)⟩)
    (fun k Pi A B ⟨cur, e, G2⟩ hg2 => ⟨cur, e, G2.grow I.hb hg2⟩)
    hI0g
    (fun c A B ⟨e1, e2, G2⟩ hg2 => ⟨e1, e2, G2.own (by rw [hL]) hM I.hb hg2 (by simp)⟩)
    ⟨st1, by simpa using h, ?_⟩
    (fun k Pi a2 W => ∃ s e s2, fb s = some (e, s2) ∧ ((e = .normal ∧ arounds fa fb st1 ps.toList (xs.drop (k + 1)) s2 = some (x, st')) ∨ (e ≠ .normal ∧ x = e ∧ st' = st1.after s2)) ∧ GoodP base w Pr N pinR Pi s a2 W)
    (fun k Pi a2 W l o o' ⟨s, e, s2, h3, h4, G2⟩ hl ho hc _ => ⟨s, e, s2, h3, h4, G2.turn (by rw [hR]) (by simp) I.hb hl ho hc⟩)
    ?_ ?_ ?_ ?_
  · exact ⟨Pr, bk, after_ok Is S Is (fun b o v h1 h2 => ⟨h1, h2⟩) (fun _ _ => rfl) (KeepsOthers.refl _), Below.refl _ _, fun _ _ _ h => h, KeepsOthers.refl _, by rw [hL]; exact mkpin bk _ (fun _ _ => rfl), fun _ _ _ h1 h2 => ⟨h1, h2⟩, fun ds e => by rw [hL] at e; simpa using e, fun b o h => h⟩
  · -- the assignment
    rintro l k Pi W K ⟨cur, hcur, PrW, bkW, IW, hbW, hpW, hkoW, hpinW, hkcW, hdW, hPiW⟩ hk hK
    obtain ⟨y, hy⟩ : ∃ y, xs[k]? = some y := ⟨_, List.getElem?_eq_getElem hk⟩
    have hdrop : xs.drop k = y :: xs.drop (k + 1) := by
      rw [List.drop_eq_getElem_cons hk]
      congr 1
      rw [List.getElem?_eq_getElem hk] at hy
      exact Option.some.inj hy
    rw [hdrop] at hcur
    simp only [arounds, Option.bind_eq_some_iff] at hcur
    obtain ⟨⟨xa, s⟩, ha, hcur⟩ := hcur
    cases xa with
    | exit id => simp at hcur
    | ret => simp at hcur
    | normal =>
      simp only [Option.bind_eq_some_iff] at hcur
      obtain ⟨⟨e, s2⟩, hfb, hcur⟩ := hcur
      have I0 := IW.marks (ds := []) (by simp) List.nodup_nil
      obtain ⟨bk2, I2, hb2⟩ := putArgs_ok ps.toList y (enc k) _ _ bkW I0 ((henc k y hy).2 W PrW) hps
      rw [zip_vals]
      have hun := unpin bkW _ (by rw [hL] at hpinW; exact hpinW)
      refine hA l W PrW pinR _ _ W .normal s hRn ⟨PrW, bk2, I2, Below.refl _ _, fun _ _ _ h => h, KeepsOthers.refl _, by rw [hR]; exact mkpin bk2 _ (fun j hj => (hb2 j).trans (hun j hj)), fun _ _ _ h1 h2 => ⟨h1, h2⟩, fun ds e => by rw [hR] at e; simpa using e⟩ ha _ fun a2 W2 G2 => ?_
      obtain ⟨Pr2, bk3, I3, hb3, hp3, hko3, hpin3, hkc3, hd3⟩ := G2
      refine hK a2 W2 (hko3.from _) (fun b o v h1 h2 => (hkc3 b o v (hPiW b o h1).1 h2).2) ⟨s, e, s2, hfb, ?_, Pr2, bk3, I3, hbW.trans hb3, fun b o hlt h => hpW b o hlt (hp3 b o hlt h), hkoW.trans hko3, hpin3, fun b o v h1 h2 => ?_, hd3, fun b o h1 => ?_⟩
      · cases e with
        | normal => exact .inl ⟨rfl, hcur⟩
        | exit id => simp only [Option.some.injEq, Prod.mk.injEq] at hcur; exact .inr ⟨by simp, hcur.1.symm, hcur.2.symm⟩
        | ret => simp only [Option.some.injEq, Prod.mk.injEq] at hcur; exact .inr ⟨by simp, hcur.1.symm, hcur.2.symm⟩
      · obtain ⟨h3, h4⟩ := hkcW b o v h1 h2
        exact hkc3 b o v h3 h4
      · obtain ⟨h3, v, h4⟩ := hPiW b o h1
        obtain ⟨h5, h6⟩ := hkc3 b o v h3 h4
        exact ⟨h5, v, h6⟩
  · -- the body
    rintro l k Pi a2 W ⟨s, e, s2, hfb, hcont, PrW, bkW, IW, hbW, hpW, hkoW, hpinW, hkcW, hdW, hPiW⟩ hk
    refine hB l W PrW pinR s a2 W e s2 hRn ⟨PrW, bkW, IW, Below.refl _ _, fun _ _ _ h => h, KeepsOthers.refl _, hpinW, fun _ _ _ h1 h2 => ⟨h1, h2⟩, hdW⟩ hfb _ fun a3 W2 G2 => ?_
    obtain ⟨Pr2, bk3, I3, hb3, hp3, hko3, hpin3, hkc3, hd3⟩ := G2
    have hcar : Carry w Pr W2 Pr2 := fun b o v h1 h2 => by
      obtain ⟨h3, h4⟩ := hkcW b o v h1 h2
      exact hkc3 b o v h3 h4
    have hun := unpin bk3 _ (by rw [hR] at hpin3; exact hpin3)
    have Ia := after_ok Is S I3 hcar hun (hkoW.trans hko3)
    have Ga : GoodP base w Pr N pinL Pi (st1.after s2) a W2 := ⟨Pr2, bk3, Ia, hbW.trans hb3, fun b o hlt h => hpW b o hlt (hp3 b o hlt h), hkoW.trans hko3, by rw [hL]; exact mkpin bk3 _ hun, hcar, fun ds e => by rw [hL] at e; simpa using e, fun b o h1 => by
      obtain ⟨h3, v, h4⟩ := hPiW b o h1
      obtain ⟨h5, h6⟩ := hkc3 b o v h3 h4
      exact ⟨h5, v, h6⟩⟩
    have hkp : Keeps Pi W W2 := fun b o v h1 h2 => (hkc3 b o v (hPiW b o h1).1 h2).2
    cases e with
    | normal =>
      rcases hcont with ⟨_, hc⟩ | ⟨hne, _⟩
      · exact ⟨hko3.from _, hkp, s2, hc, Ga⟩
      · exact absurd rfl hne
    | exit id =>
      rcases hcont with ⟨hne, _⟩ | ⟨_, hx, hs⟩
      · simp at hne
      · exact ⟨hko3.from _, by rw [hx]; rfl, by rw [hx]; simp, by rw [hs]; exact Ga.good⟩
    | ret =>
      rcases hcont with ⟨hne, _⟩ | ⟨_, hx, hs⟩
      · simp at hne
      · exact ⟨hko3.from _, by rw [hx]; rfl, by rw [hx]; simp, by rw [hs]; exact Ga.good⟩
  · -- all have come
    rintro D Pi W hD ⟨cur, hcur, PrW, bkW, IW, hbW, hpW, hkoW, hpinW, hkcW, hdW, _⟩ hDk
    have he : xs.drop xs.length = [] := by simp
    rw [he] at hcur
    simp only [arounds, Option.some.injEq, Prod.mk.injEq] at hcur
    obtain ⟨rfl, rfl⟩ := hcur
    have hun := unpin bkW _ (by rw [hL] at hpinW; exact hpinW)
    refine hQ _ _ ⟨PrW, bkW, IW.marks (fun d hd => ?_) ?_, hb.trans hbW, fun b o hlt h => hp b o hlt (hpW b o hlt h), hko.trans hkoW, fun k b e => ?_, fun b o v h1 h2 => ?_, fun ds e => by rw [hz] at e; simp at e⟩
    · rcases List.mem_cons.1 hd with rfl | hd
      · exact ⟨D, rfl, hDk, Nat.le_trans I.hb hD⟩
      · exact IW.defers.1 d hd
    · refine List.nodup_cons.2 ⟨fun hd => ?_, IW.defers.2⟩
      obtain ⟨D', e1, e2, _⟩ := hM _ hd
      have e3 : D = D' := by simpa using e1
      have := (Array.getElem?_eq_some_iff.1 e2).1
      omega
    · have hc : ks.contains k = false := by
        cases hc : ks.contains k with
        | false => rfl
        | true => rw [hpn k hc] at e; simp at e
      exact (hun k hc).trans (hpin k b e)
    · obtain ⟨h3, h4⟩ := hkc b o v h1 h2
      exact hkcW b o v h3 h4
  · -- a round has left
    rintro D c W hD ⟨rfl, hx, PrW, bkW, IW, hbW, hpW, hkoW, hpinW, hkcW, hdW⟩ hDk
    have hun := unpin bkW _ (by rw [hL] at hpinW; exact hpinW)
    have G2 : Good base w0 Pr0 N pin st' { a with defers := { target := .collected D, args := #[] } :: a.defers } W := by
      refine ⟨PrW, bkW, IW.marks (fun d hd => ?_) ?_, hb.trans hbW, fun b o hlt h => hp b o hlt (hpW b o hlt h), hko.trans hkoW, fun k b e => ?_, fun b o v h1 h2 => ?_, fun ds e => by rw [hz] at e; simp at e⟩
      · rcases List.mem_cons.1 hd with rfl | hd
        · exact ⟨D, rfl, hDk, Nat.le_trans I.hb hD⟩
        · exact IW.defers.1 d hd
      · refine List.nodup_cons.2 ⟨fun hd => ?_, IW.defers.2⟩
        obtain ⟨D', e1, e2, _⟩ := hM _ hd
        have e3 : D = D' := by simpa using e1
        have := (Array.getElem?_eq_some_iff.1 e2).1
        omega
      · have hc : ks.contains k = false := by
          cases hc : ks.contains k with
          | false => rfl
          | true => rw [hpn k hc] at e; simp at e
        exact (hun k hc).trans (hpin k b e)
      · obtain ⟨h3, h4⟩ := hkc b o v h1 h2
        exact hkcW b o v h3 h4
    have hq := hQ _ _ G2
    cases x with
    | normal => exact absurd rfl hx
    | exit id => exact wpIn_exit hq
    | ret => exact wpIn_ret hq
end
end Go.Proofs.YtibbgjafjhcemaaDoor.Cul
