/- Part of a proof by an abstract machine for the program's code: lemmas, without conditions of their own beyond those that each states. -/
import Derived.Test.YtibbgjafjhcemaaDoorM23
import Derived.RangeFuncLeaves
import Derived.RangeFuncNested
set_option linter.unusedVariables false
set_option linter.unusedSimpArgs false
namespace Go.Proofs.YtibbgjafjhcemaaDoor.Cul
open Go Go.RowKit
/-! ### Blocks that are no cells turn -/
section
variable {pin : Pins} {P : Program} {base : Nat} {w w' w0 : World} {Pr Pr0 : Prot} {bk : Key → Nat} {st : St} {a : Act} {N : Nat} {r : Nat}
def Prot.less (Pr : Prot) (r : Nat) : Prot := fun b o => Pr b o ∧ b ≠ r
theorem cell_none {o : Obj} (h : w.heap[r]? = some o) (hc : o.isCells = false) (i : Nat) : w.cell? ⟨r, i, none⟩ = none := by
  unfold World.cell?
  simp only [h]
  cases o <;> simp_all [Obj.isCells]
mutual
theorem Rp.shrink (hr : ∀ i, w.cell? ⟨r, i, none⟩ = none) : ∀ {p : PV} {v : Value}, Rp w Pr p v → Rp w (Pr.less r) p v
  | _, _, .lit h => .lit h
  | _, _, .sl hrr h1 hl hn hc hp => .sl (RpL.shrink hr hrr) h1 hl hn hc (fun i hi => ⟨hp i hi, fun e => by
      have := hc i _ (List.getElem?_eq_getElem hi); rw [e, hr] at this; simp at this⟩)
  | _, _, .sl0 => .sl0
  | _, _, .el hrr h1 hc hp => .el (RpL.shrink hr hrr) h1 hc (fun i hi => ⟨hp i hi, fun e => by
      have := hc i _ (List.getElem?_eq_getElem hi); rw [e, hr] at this; simp at this⟩)
  | _, _, .fn hrr => .fn (RpL.shrink hr hrr)
  | _, _, .ag hrr h1 => .ag (RpL.shrink hr hrr) h1
  | _, _, .tup hrr => .tup (RpL.shrink hr hrr)
theorem RpL.shrink (hr : ∀ i, w.cell? ⟨r, i, none⟩ = none) : ∀ {cs : List PV} {vs : List Value}, RpL w Pr cs vs → RpL w (Pr.less r) cs vs
  | _, _, .nil => .nil
  | _, _, .cons h hs => .cons (Rp.shrink hr h) (RpL.shrink hr hs)
end
theorem live_cells (I : Inv base w Pr bk st a N) {x : Key} (hx : live st x) : ∃ c T, w.heap[bk x]? = some (.cells c T (0, 0)) := by
  cases x with
  | bx k => obtain ⟨cs, h⟩ := hx; obtain ⟨⟨T, vs, h1, _⟩, _⟩ := I.boxes k cs h; exact ⟨_, T, h1⟩
  | sx t =>
    rcases hx with ⟨sz, n, cs, h⟩ | ⟨z, h⟩
    · obtain ⟨v, _, o, cap, vs, _, _, _, _, _, h6, _⟩ := I.slots t _ h
      obtain ⟨c, T, e, _⟩ := h6.there; exact ⟨c, T, e⟩
    · obtain ⟨_, _, _, _, _, _, h3⟩ := I.grs t z h
      obtain ⟨c, T, e, _⟩ := h3.there; exact ⟨c, T, e⟩
  | cx k o =>
    obtain ⟨z, h⟩ := hx
    obtain ⟨_, _, _, _, _, _, _, _, h4⟩ := I.grc k o z h
    obtain ⟨c, T, e, _⟩ := h4.there; exact ⟨c, T, e⟩
theorem RpA.turn {t : Nat} {av : AV} {v : Value} (k1 : ∀ {p v}, Rp w Pr p v → Rp w' (Pr.less r) p v) (k2 : ∀ {cs vs}, RpL w Pr cs vs → RpL w' (Pr.less r) cs vs)
    (hex : ∀ sz n cs, av = .ex sz n cs → w'.heap[bk (.sx t)]? = w.heap[bk (.sx t)]?) (h : RpA st a w Pr bk t av v) : RpA st a w' (Pr.less r) bk t av v := by
  cases av with
  | pv p => exact k1 h
  | bp k off => exact h
  | cl f caps =>
    obtain ⟨vs, h1, h2, h3⟩ := h
    refine ⟨vs, h1, h2, fun i c u hc hu => ?_⟩
    have := h3 i c u hc hu
    cases c with
    | pv p => exact k1 this
    | bp k off => exact this
  | ex sz n cs =>
    obtain ⟨o, cap, vs, h1, h2, h3, h4, h5, h6, h7⟩ := h
    have he := hex sz n cs rfl
    exact ⟨o, cap, vs, h1, k2 h2, h3, h4, rangeAt_heap he h5, ⟨h6.hz, h6.le, by obtain ⟨c, T, e1, e2⟩ := h6.there; exact ⟨c, T, he.trans e1, e2⟩, fun o' ho => h6.pr o' ho.1⟩, fun o' ho => h7 o' ho.1⟩
  | xr u => exact h
  | xe u off => exact h
  | newp _ => exact h
  | dead => trivial
theorem Inv.turn (I : Inv base w Pr bk st a N) {row : Option Nat} (hg : w.grownBy w' row) (hr : ∀ r', row = some r' → r' = r) {o : Obj} (ho : w.heap[r]? = some o) (hc : o.isCells = false) (hd : ∀ d ∈ a.defers, d ≠ { target := .collected r, args := #[] }) :
    Inv base w' (Pr.less r) bk st a N := by
  have hnone := cell_none ho hc
  have hsame : ∀ k, k < w.heap.size → k ≠ r → w'.heap[k]? = w.heap[k]? := fun k hk hne => hg.block k hk (fun e => hne (hr k e.symm))
  have hnr : ∀ x, live st x → bk x ≠ r := fun x hx e => by
    obtain ⟨c, T, h⟩ := live_cells I hx
    rw [e, ho] at h; cases h; simp [Obj.isCells] at hc
  have hlv : ∀ x, live st x → w'.heap[bk x]? = w.heap[bk x]? := fun x hx => hsame _ (I.own x hx).2 (hnr x hx)
  have hK : Kp w (Pr.less r) w' (Pr.less r) := ⟨fun _ _ h => h, fun b i h => World.cell?_of_block (w := w) (hsame b (I.prot b i h.1) h.2)⟩
  have k1 : ∀ {p v}, Rp w Pr p v → Rp w' (Pr.less r) p v := fun h => Rp.mono hK (Rp.shrink hnone h)
  have k2 : ∀ {cs vs}, RpL w Pr cs vs → RpL w' (Pr.less r) cs vs := fun h => RpL.mono hK (RpL.shrink hnone h)
  have hroom : ∀ x, live st x → ∀ {o n cap sz}, Room w Pr (bk x) o n cap sz → Room w' (Pr.less r) (bk x) o n cap sz := fun x hx {o n cap sz} h =>
    ⟨h.hz, h.le, by obtain ⟨c, T, e1, e2⟩ := h.there; exact ⟨c, T, (hlv x hx).trans e1, e2⟩, fun o' ho => h.pr o' ho.1⟩
  constructor
  · exact I.size
  · refine ⟨fun d hdm => ?_, I.defers.2⟩
    obtain ⟨D, e1, e2, e3⟩ := I.defers.1 d hdm
    have hne : D ≠ r := fun e => hd d hdm (by rw [e1, e])
    exact ⟨D, e1, (hsame D (Array.getElem?_eq_some_iff.1 e2).1 hne).trans e2, e3⟩
  · exact Nat.le_trans I.hb hg.size
  · exact fun b i h => Nat.lt_of_lt_of_le (I.prot b i h.1) hg.size
  · intro t av ht
    obtain ⟨v, hv, hrp⟩ := I.slots t av ht
    exact ⟨v, hv, RpA.turn k1 k2 (fun sz n cs e => hlv (.sx t) (.inl ⟨sz, n, cs, by rw [← e]; exact ht⟩)) hrp⟩
  · exact fun x hx => ⟨(I.own x hx).1, Nat.lt_of_lt_of_le (I.own x hx).2 hg.size⟩
  · exact I.inj
  · intro k cs hq
    obtain ⟨⟨T', us', e1, e2, e3⟩, e4⟩ := I.boxes k cs hq
    exact ⟨⟨T', us', (hlv (.bx k) ⟨cs, hq⟩).trans e1, k2 e2, e3⟩, fun o ho => e4 o ho.1⟩
  · intro t z hz
    obtain ⟨o', n, cap, c, e1, e2, e3⟩ := I.grs t z hz
    exact ⟨o', n, cap, c, e1, e2, hroom (.sx t) (.inr ⟨z, hz⟩) e3⟩
  · intro k i z hz
    obtain ⟨o', n, cap, c, bcs, e1, e2, e3, e4⟩ := I.grc k i z hz
    exact ⟨o', n, cap, c, bcs, e1, e2, (World.cell?_of_block (w := w) (hlv (.bx k) ⟨bcs, e1⟩)).trans e3, hroom (.cx k i) ⟨z, hz⟩ e4⟩
  · intro t q ht hq
    rw [← I.tags t q ht hq]
    cases q with
    | s x => rfl
    | c k i =>
      obtain ⟨z, hz⟩ := hq
      obtain ⟨o', n, cap, c, bcs, e1, e2, e3, e4⟩ := I.grc k i z hz
      exact World.cell?_of_block (w := w) (hlv (.bx k) ⟨bcs, e1⟩)
/-- The same frame with fewer marks. -/
theorem Inv.marks (I : Inv base w Pr bk st a N) {ds : List Deferred} (h : ∀ d ∈ ds, Mark base w d) (hn : ds.Nodup) : Inv base w Pr bk st { a with defers := ds } N :=
  ⟨I.size, ⟨h, hn⟩, I.hb, I.prot, fun t av ht => (by
    obtain ⟨v, hv, hr⟩ := I.slots t av ht
    exact ⟨v, hv, by cases av <;> exact hr⟩), I.own, I.inj, I.boxes, I.grs, I.grc, fun t q ht hq => (by
    have := I.tags t q ht hq
    cases q <;> exact this)⟩
theorem leaves_ok {F : Fence} {n : Nat} {fn : Func} {R : Ending → World → Prop} (hb0 : base = w0.heap.size) (hz : pin.ds = none) (hR : ∀ (tmps : Array Value) (w : World), Good base w0 Pr0 N pin st { tmps := tmps, defers := [] } w → ∃ v, (results fn tmps).run P w = .ok v w ∧ R (.returned v) w) :
    ∀ (ds : List Deferred) (tmps : Array Value) (w : World), Good base w0 Pr0 N pin st { tmps := tmps, defers := ds } w → LeavesInM F n P fn tmps R ds .returning w
  | [], tmps, w, G => by
    obtain ⟨v, h1, h2⟩ := hR tmps w G
    exact ⟨v, h1, h2⟩
  | d :: ds, tmps, w, G => by
    obtain ⟨Pr, bk, I, hb, hp, hko, hpn, hkc, _⟩ := G
    obtain ⟨D, e1, e2, e3⟩ := I.defers.1 d (by simp)
    have hnd := I.defers.2
    simp only [List.nodup_cons] at hnd
    refine ⟨by simp, .inl ⟨D, _, by rw [e1], run_takeDeferred e2, leaves_ok hb0 hz hR ds tmps _ ?_⟩⟩
    have I1 := I.marks (ds := ds) (fun d' hd' => I.defers.1 d' (List.mem_cons_of_mem _ hd')) hnd.2
    have hg : w.grownBy (w.putObj D (.deferred none)) (some D) := grownBy_putObj' w D _
    have I2 := I1.turn hg (r := D) (fun r' e => by cases e; rfl) e2 rfl (fun d' hd' e => hnd.1 (by rw [e1, ← e]; exact hd'))
    refine ⟨_, bk, I2, hb.grown hg (Nat.le_trans (Nat.le_of_eq hb0) hb.size) (fun k e => by cases e; exact e3), fun b o hlt h => hp b o hlt h.1, ⟨Nat.le_trans hko.size (by simp), fun k o h ho => ?_⟩, hpn, fun b o v h1 h2 => ?_, fun ds' e => by rw [hz] at e; simp at e⟩
    rotate_left
    · obtain ⟨h3, h4⟩ := hkc b o v h1 h2
      have hbD : b ≠ D := fun e => by subst e; rw [cell_none e2 rfl] at h4; simp at h4
      exact ⟨⟨h3, hbD⟩, (World.cell?_of_block (w := w) (a := ⟨b, o, none⟩) (World.putObj_heap_other hbD)).trans h4⟩
    have hk : k ≠ D := fun e => by
      have := (Array.getElem?_eq_some_iff.1 h).1; omega
    rw [World.putObj_heap_other hk]
    exact hko.same k o h ho
end
end Go.Proofs.YtibbgjafjhcemaaDoor.Cul
