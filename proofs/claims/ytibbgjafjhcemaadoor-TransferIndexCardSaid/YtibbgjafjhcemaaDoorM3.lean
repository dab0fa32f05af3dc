/- Part of a proof by an abstract machine for the program's code: lemmas, without conditions of their own beyond those that each states. -/
import Derived.Test.YtibbgjafjhcemaaDoorM2
import Derived.RangeFuncOwn
set_option linter.unusedVariables false
set_option linter.unusedSimpArgs false
namespace Go.Proofs.YtibbgjafjhcemaaDoor.Cul
open Go Go.RowKit

/-! ### The frame's own blocks -/
inductive Key where
  | bx (k : Nat)
  | sx (t : Nat)
  | cx (k off : Nat)
  deriving DecidableEq
def Pl.key : Pl → Key
  | .s t => .sx t
  | .c k o => .cx k o
def exAt (st : St) (t : Nat) : Prop := ∃ sz n cs, look st.sl t = some (.ex sz n cs)
def grAt (st : St) (p : Pl) : Prop := ∃ z, lookP st.gr p = some z
def live (st : St) : Key → Prop
  | .bx k => ∃ cs, look st.bx k = some cs
  | .sx t => exAt st t ∨ grAt st (.s t)
  | .cx k o => grAt st (.c k o)
def One (vs : List Value) : Prop := ∀ v ∈ vs, v.oneCell' = true
def CapRp (w : World) (Pr : Prot) (bk : Key → Nat) : Cap → Value → Prop
  | .pv p, v => Rp w Pr p v
  | .bp k off, v => v = .pointer (some ⟨bk (.bx k), off, none⟩)
/-- A row with room behind it: nobody else's. -/
structure Room (w : World) (Pr : Prot) (b o n cap sz : Nat) : Prop where
  hz : 0 < sz
  le : n ≤ cap
  there : ∃ cells T, w.heap[b]? = some (.cells cells T (0, 0)) ∧ o + cap * sz ≤ cells.size
  pr : ∀ o', Pr b o' → o' < o + n * sz
/-- What a slot's value is in memory. -/
def RpA (st : St) (a : Act) (w : World) (Pr : Prot) (bk : Key → Nat) (t : Nat) : AV → Value → Prop
  | .pv p, v => Rp w Pr p v
  | .bp k off, v => v = .pointer (some ⟨bk (.bx k), off, none⟩)
  | .cl f caps, v => ∃ vs : List Value, v = .func (.func f) #[] vs.toArray ∧ vs.length = caps.length ∧ ∀ (i : Nat) (c : Cap) (u : Value), caps[i]? = some c → vs[i]? = some u → CapRp w Pr bk c u
  | .ex sz n cs, v => ∃ (o cap : Nat) (vs : List Value), v = .slice (some ⟨bk (.sx t), o, none⟩) n cap ∧ RpL w Pr cs vs ∧ One vs ∧ cs.length = n * sz ∧ w.rangeAt (bk (.sx t)) o vs ∧ Room w Pr (bk (.sx t)) o n cap sz ∧ ∀ o', ¬ Pr (bk (.sx t)) o'
  | .xr u, v => a.tmps[u]? = some v ∧ exAt st u
  | .xe u off, v => (∃ b o n cap, a.tmps[u]? = some (.slice (some ⟨b, o, none⟩) n cap) ∧ v = .pointer (some ⟨b, o + off, none⟩)) ∧ exAt st u
  | .newp _, _ => False
  | .dead, _ => True
def placeVal (a : Act) (w : World) (bk : Key → Nat) : Pl → Option Value
  | .s t => a.tmps[t]?
  | .c k o => w.cell? ⟨bk (.bx k), o, none⟩

/-- A mark that a loop over a function leaves among the deferred calls. -/
def Mark (base : Nat) (w : World) (d : Deferred) : Prop := ∃ D, d = { target := .collected D, args := #[] } ∧ w.heap[D]? = some (.deferred (some [])) ∧ base ≤ D
structure Inv (base : Nat) (w : World) (Pr : Prot) (bk : Key → Nat) (st : St) (a : Act) (N : Nat) : Prop where
  size : a.tmps.size = N
  defers : (∀ d ∈ a.defers, Mark base w d) ∧ a.defers.Nodup
  hb : base ≤ w.heap.size
  prot : ∀ b o, Pr b o → b < w.heap.size
  slots : ∀ t av, look st.sl t = some av → ∃ v, a.tmps[t]? = some v ∧ RpA st a w Pr bk t av v
  own : ∀ x, live st x → base ≤ bk x ∧ bk x < w.heap.size
  inj : ∀ x y, live st x → live st y → bk x = bk y → x = y
  boxes : ∀ k cs, look st.bx k = some cs → (∃ T vs, w.heap[bk (.bx k)]? = some (.cells vs.toArray T (0, 0)) ∧ RpL w Pr cs vs ∧ One vs) ∧ ∀ o, ¬ Pr (bk (.bx k)) o
  grs : ∀ t z, lookP st.gr (.s t) = some z → ∃ o n cap cs, look st.sl t = some (.pv (.sl z n cs)) ∧ a.tmps[t]? = some (.slice (some ⟨bk (.sx t), o, none⟩) n cap) ∧ Room w Pr (bk (.sx t)) o n cap z
  grc : ∀ k i z, lookP st.gr (.c k i) = some z → ∃ o n cap cs bcs, look st.bx k = some bcs ∧ bcs[i]? = some (.sl z n cs) ∧ w.cell? ⟨bk (.bx k), i, none⟩ = some (.slice (some ⟨bk (.cx k i), o, none⟩) n cap) ∧ Room w Pr (bk (.cx k i)) o n cap z
  tags : ∀ t q, look st.tg t = some (some q) → grAt st q → placeVal a w bk q = a.tmps[t]?

/-- The step of a callee or of an operation that makes memory: new blocks; what is protected stays. -/
structure Fw (w : World) (Pr : Prot) (w' : World) (Pr' : Prot) : Prop where
  bel : Below w.heap.size w w'
  pr : ∀ b o, Pr b o → Pr' b o
  old : ∀ b o, b < w.heap.size → Pr' b o → Pr b o
  new : ∀ b o, Pr' b o → b < w'.heap.size
theorem Fw.heap {w w' : World} {Pr Pr' : Prot} (x : Fw w Pr w' Pr') {b : Nat} (h : b < w.heap.size) : w'.heap[b]? = w.heap[b]? := x.bel.block b h
theorem Fw.kp {w w' : World} {Pr Pr' : Prot} (x : Fw w Pr w' Pr') (hp : ∀ b o, Pr b o → b < w.heap.size) : Kp w Pr w' Pr' :=
  ⟨x.pr, fun b o h => x.bel.cell (p := ⟨b, o, none⟩) (hp b o h)⟩
theorem Fw.refl {w : World} {Pr : Prot} (hp : ∀ b o, Pr b o → b < w.heap.size) : Fw w Pr w Pr := ⟨Below.refl _ _, fun _ _ h => h, fun _ _ _ h => h, hp⟩
theorem Fw.trans {w w1 w2 : World} {Pr Pr1 Pr2 : Prot} (x : Fw w Pr w1 Pr1) (y : Fw w1 Pr1 w2 Pr2) : Fw w Pr w2 Pr2 :=
  ⟨x.bel.trans (y.bel.mono x.bel.size), fun b o h => y.pr b o (x.pr b o h), fun b o hb h => x.old b o hb (y.old b o (Nat.lt_of_lt_of_le hb x.bel.size) h), y.new⟩

theorem Fw.ko {w w' : World} {Pr Pr' : Prot} (x : Fw w Pr w' Pr') : KeepsOthers w w' :=
  ⟨x.bel.size, fun k o h _ => (x.heap (Array.getElem?_eq_some_iff.1 h).1).trans h⟩
theorem Room.fw {w w' : World} {Pr Pr' : Prot} (x : Fw w Pr w' Pr') {b o n cap sz : Nat} (h : Room w Pr b o n cap sz) (hb : b < w.heap.size) : Room w' Pr' b o n cap sz :=
  ⟨h.hz, h.le, by obtain ⟨c, T, h1, h2⟩ := h.there; exact ⟨c, T, (x.heap hb).trans h1, h2⟩, fun o' ho => h.pr o' (x.old b o' hb ho)⟩
theorem rangeAt_heap {w w' : World} {b o : Nat} {vs : List Value} (h : w'.heap[b]? = w.heap[b]?) (hc : w.rangeAt b o vs) : w'.rangeAt b o vs := fun j v hj => by
  have := hc j v hj; rw [← this]; exact World.cell?_of_block (w := w) h
section
variable {base : Nat} {w w' : World} {Pr Pr' : Prot} {bk : Key → Nat} {st : St} {a : Act} {N : Nat}
theorem CapRp.mono (k : Kp w Pr w' Pr') {c : Cap} {v : Value} (h : CapRp w Pr bk c v) : CapRp w' Pr' bk c v := by
  cases c with
  | pv p => exact Rp.mono k h
  | bp k off => exact h
/-- What was so is so behind new blocks. -/
theorem RpA.fw (I : Inv base w Pr bk st a N) (x : Fw w Pr w' Pr') {t : Nat} {av : AV} {v : Value} (ht : look st.sl t = some av) (h : RpA st a w Pr bk t av v) : RpA st a w' Pr' bk t av v := by
  have k := x.kp I.prot
  cases av with
  | pv p => exact Rp.mono k h
  | bp k off => exact h
  | cl f caps => obtain ⟨vs, h1, h2, h3⟩ := h; exact ⟨vs, h1, h2, fun i c u hc hu => CapRp.mono k (h3 i c u hc hu)⟩
  | ex sz n cs =>
    obtain ⟨o, cap, vs, h1, h2, h3, h4, h5, h6, h7⟩ := h
    have hb := (I.own (.sx t) (.inl ⟨sz, n, cs, ht⟩)).2
    exact ⟨o, cap, vs, h1, RpL.mono k h2, h3, h4, rangeAt_heap (x.heap hb) h5, h6.fw x hb, fun o' ho => h7 o' (x.old _ _ hb ho)⟩
  | xr u => exact h
  | xe u off => exact h
  | newp _ => exact h
  | dead => exact h
theorem Inv.fw (I : Inv base w Pr bk st a N) (x : Fw w Pr w' Pr') : Inv base w' Pr' bk st a N where
  size := I.size
  defers := ⟨fun d hd => by
    obtain ⟨D, h1, h2, h3⟩ := I.defers.1 d hd
    exact ⟨D, h1, (x.heap (Array.getElem?_eq_some_iff.1 h2).1).trans h2, h3⟩, I.defers.2⟩
  hb := Nat.le_trans I.hb x.bel.size
  prot := x.new
  slots t av ht := by obtain ⟨v, h1, h2⟩ := I.slots t av ht; exact ⟨v, h1, RpA.fw I x ht h2⟩
  own y hy := ⟨(I.own y hy).1, Nat.lt_of_lt_of_le (I.own y hy).2 x.bel.size⟩
  inj := I.inj
  boxes k cs hk := by
    obtain ⟨⟨T, vs, h1, h2, h3⟩, h4⟩ := I.boxes k cs hk
    have hb := (I.own (.bx k) ⟨cs, hk⟩).2
    exact ⟨⟨T, vs, (x.heap hb).trans h1, RpL.mono (x.kp I.prot) h2, h3⟩, fun o ho => h4 o (x.old _ _ hb ho)⟩
  grs t z h := by
    obtain ⟨o, n, cap, cs, h1, h2, h3⟩ := I.grs t z h
    exact ⟨o, n, cap, cs, h1, h2, h3.fw x (I.own (.sx t) (.inr ⟨z, h⟩)).2⟩
  grc k i z h := by
    obtain ⟨o, n, cap, cs, bcs, h1, h2, h3, h4⟩ := I.grc k i z h
    exact ⟨o, n, cap, cs, bcs, h1, h2, (x.bel.cell (p := ⟨_, _, none⟩) (I.own (.bx k) ⟨bcs, h1⟩).2).trans h3, h4.fw x (I.own (.cx k i) ⟨z, h⟩).2⟩
  tags t q h hg := by
    have := I.tags t q h hg
    cases q with
    | s u => exact this
    | c k o =>
      obtain ⟨z, hz⟩ := hg
      obtain ⟨_, _, _, _, bcs, h1, _⟩ := I.grc k o z hz
      exact (x.bel.cell (p := ⟨_, _, none⟩) (I.own (.bx k) ⟨bcs, h1⟩).2).trans this
end

/-! ### The lists -/
theorem look_drop1 {α : Type} : ∀ (l : List (Nat × α)) (d t : Nat), look (drop1 l d) t = if t = d then none else look l t
  | [], d, t => by simp [drop1, look]
  | (k, v) :: l, d, t => by
    simp only [drop1]
    have ih := look_drop1 l d t
    by_cases h : k = d
    · rw [if_pos h, ih]; subst h
      by_cases ht : t = k
      · simp [ht]
      · simp [ht, look, Ne.symm ht]
    · rw [if_neg h]; simp only [look]
      by_cases hk : k = t
      · subst hk; simp [h]
      · rw [if_neg hk, ih, if_neg hk]
theorem look_map {α β : Type} (f : Nat × α → Nat × β) (g : Nat → α → β) (hf : ∀ x, f x = (x.1, g x.1 x.2)) : ∀ (l : List (Nat × α)) (t : Nat), look (l.map f) t = (look l t).map (g t)
  | [], t => rfl
  | (k, v) :: l, t => by
    simp only [List.map_cons, hf, look]
    by_cases h : k = t
    · subst h; simp
    · rw [if_neg h, if_neg h]; exact look_map f g hf l t
theorem lookP_filter (p : Pl → Bool) : ∀ (l : List (Pl × Nat)) (t : Pl), lookP (l.filter (fun x => p x.1)) t = if p t then lookP l t else none
  | [], t => by simp [lookP]
  | (k, v) :: l, t => by
    have ih := lookP_filter p l t
    simp only [List.filter_cons]
    by_cases hk : p k = true
    · simp only [hk, if_true, lookP]
      by_cases h : k = t
      · subst h; simp [hk]
      · rw [if_neg h, if_neg h]; exact ih
    · simp only [hk, Bool.false_eq_true, if_false, ih, lookP]
      by_cases h : k = t
      · subst h; simp [hk]
      · rw [if_neg h]
theorem look_filter {α : Type} (p : Nat → Bool) : ∀ (l : List (Nat × α)) (t : Nat), look (l.filter (fun x => p x.1)) t = if p t then look l t else none
  | [], t => by simp [look]
  | (k, v) :: l, t => by
    have ih := look_filter p l t
    simp only [List.filter_cons]
    by_cases hk : p k = true
    · simp only [hk, if_true, look]
      by_cases h : k = t
      · subst h; simp [hk]
      · rw [if_neg h, if_neg h]; exact ih
    · simp only [hk, Bool.false_eq_true, if_false, ih, look]
      by_cases h : k = t
      · subst h; simp [hk]
      · rw [if_neg h]
theorem look_put (st : St) (d : Nat) (v : AV) (t : Nat) : look (st.put (some d) v).sl t = (if t = d then some v else look st.sl t).map fun av => if refersTo d av then .dead else av := by
  simp only [St.put, look, killA]
  by_cases h : d = t
  · simp [h]
  · rw [if_neg h, if_neg (Ne.symm h), look_map (killA d) (fun _ av => if refersTo d av then .dead else av) (fun _ => rfl), look_drop1, if_neg (Ne.symm h)]
theorem lookP_put (st : St) (d : Nat) (v : AV) (p : Pl) : lookP (st.put (some d) v).gr p = if p = .s d then none else lookP st.gr p := by
  simp only [St.put]
  have := lookP_filter (fun q => decide (q ≠ Pl.s d)) st.gr p
  simp only [ne_eq, decide_not, Bool.not_eq_eq_eq_not, Bool.not_true, decide_eq_false_iff_not, ite_not] at this ⊢
  exact this
theorem lookT_put (st : St) (d : Nat) (v : AV) (t : Nat) : look (st.put (some d) v).tg t = if t = d then none else (look st.tg t).map fun q => if q = some (.s d) then none else q := by
  simp only [St.put]
  rw [look_map (killT (.s d)) (fun _ q => if q = some (.s d) then none else q) (fun _ => rfl), look_drop1]
  by_cases h : t = d
  · simp [h]
  · simp [h]
end Go.Proofs.YtibbgjafjhcemaaDoor.Cul
