/- Part of a proof by an abstract machine for the program's code: lemmas, without conditions of their own beyond those that each states. -/
import Derived.Test.YtibbgjafjhcemaaDoorM13
import Derived.Deep.AppendSrc
set_option linter.unusedVariables false
set_option linter.unusedSimpArgs false
namespace Go.Proofs.YtibbgjafjhcemaaDoor.Cul
open Go Go.RowKit
section
variable {P : Program} {base : Nat} {w : World} {Pr : Prot} {bk : Key → Nat} {st : St} {a : Act} {N : Nat}
theorem setCells_eq {b : Nat} {T : TypeId} : ∀ (vs : List Value) (o : Nat) (cur : Array Value) (w : World), w.heap[b]? = some (.cells cur T (0, 0)) → o + vs.length ≤ cur.size →
    w.setCells b o vs = w.setRow b (spliceV cur.toList o vs).toArray
  | [], o, cur, w, hg, h => by
    simp only [World.setCells, spliceV, List.append_nil, List.length_nil, Nat.add_zero, List.take_append_drop, Array.toArray_toList]
    exact (setRow_self w b cur T (0, 0) hg).symm
  | v :: r, o, cur, w, hg, h => by
    simp only [List.length_cons] at h
    rw [World.setCells, setCell_eq_setRow w b o cur T (0, 0) v hg]
    rw [setCells_eq r (o + 1) (cur.setIfInBounds o v) _ (setRow_heap w b cur _ T _ hg) (by simp; omega), setRow_setRow]
    congr 2
    unfold spliceV
    simp only [Array.toList_setIfInBounds, List.length_cons]
    have e2 : o + 1 + r.length = o + (r.length + 1) := by omega
    rw [e2, List.take_set, List.drop_set_of_lt (by omega)]
    have hlt : o < cur.toList.length := by simp; omega
    rw [List.take_succ_eq_append_getElem hlt, List.set_append_right _ _ (by simp; omega)]
    simp [Nat.min_eq_left (show o ≤ cur.size by omega)]
/-- Cells are written in a block that nobody speaks of as his own. -/
theorem Inv.wr_free (I : Inv base w Pr bk st a N) {w' : World} {Pr' : Prot} {g : Nat} (W : Wr w w' g) (hg : g < w.heap.size) (hfree : ∀ x, live st x → bk x ≠ g) (k : Kp w Pr w' Pr') (hP : ∀ b o, Pr' b o → b ≠ g → Pr b o) : Inv base w' Pr' bk st a N := by
  have hPn : ∀ x, live st x → ∀ o, Pr' (bk x) o → Pr (bk x) o := fun x hx o h => hP _ _ h (hfree x hx)
  have hroom : ∀ x, live st x → ∀ {o n cap sz}, Room w Pr (bk x) o n cap sz → Room w' Pr' (bk x) o n cap sz := fun x hx {o n cap sz} h =>
    ⟨h.hz, h.le, by obtain ⟨c, T, e1, e2⟩ := h.there; exact ⟨c, T, (W.other _ (hfree x hx)).trans e1, e2⟩, fun o' ho => h.pr o' (hPn x hx _ ho)⟩
  constructor
  · exact I.size
  · exact ⟨fun d hd => (I.defers.1 d hd).ko W.ko, I.defers.2⟩
  · rw [W.size]; exact I.hb
  · intro b o h
    rw [W.size]
    by_cases e : b = g
    · rw [e]; exact hg
    · exact I.prot b o (hP b o h e)
  · intro t av ht
    obtain ⟨v, hv, hr⟩ := I.slots t av ht
    refine ⟨v, hv, ?_⟩
    cases av with
    | pv p => exact Rp.mono k hr
    | bp k off => exact hr
    | cl f caps => obtain ⟨vs, h1, h2, h3⟩ := hr; exact ⟨vs, h1, h2, fun i c u hc hu => CapRp.mono k (h3 i c u hc hu)⟩
    | ex sz n cs =>
      obtain ⟨o, cap, vs, h1, h2, h3, h4, h5, h6, h7⟩ := hr
      have hl : live st (.sx t) := .inl ⟨sz, n, cs, ht⟩
      exact ⟨o, cap, vs, h1, RpL.mono k h2, h3, h4, rangeAt_heap (W.other _ (hfree _ hl)) h5, hroom _ hl h6, fun o' ho => h7 o' (hPn _ hl _ ho)⟩
    | xr u => exact hr
    | xe u off => exact hr
    | newp _ => exact hr
    | dead => trivial
  · exact fun x hx => by rw [W.size]; exact I.own x hx
  · exact I.inj
  · intro k' cs' hq
    obtain ⟨⟨T', us', e1, e2, e3⟩, e4⟩ := I.boxes k' cs' hq
    have hl : live st (.bx k') := ⟨cs', hq⟩
    exact ⟨⟨T', us', (W.other _ (hfree _ hl)).trans e1, RpL.mono k e2, e3⟩, fun o ho => e4 o (hPn _ hl _ ho)⟩
  · intro t z hz
    obtain ⟨o', n, cap, c, e1, e2, e3⟩ := I.grs t z hz
    exact ⟨o', n, cap, c, e1, e2, hroom (.sx t) (.inr ⟨z, hz⟩) e3⟩
  · intro k' i z hz
    obtain ⟨o', n, cap, c, bcs, e1, e2, e3, e4⟩ := I.grc k' i z hz
    exact ⟨o', n, cap, c, bcs, e1, e2, (World.cell?_of_block (w := w) (W.other _ (hfree (.bx k') ⟨bcs, e1⟩))).trans e3, hroom (.cx k' i) ⟨z, hz⟩ e4⟩
  · intro t q ht hq
    rw [← I.tags t q ht hq]
    cases q with
    | s x => rfl
    | c k' i =>
      obtain ⟨z, hz⟩ := hq
      obtain ⟨o', n, cap, c, bcs, e1, e2, e3, e4⟩ := I.grc k' i z hz
      exact World.cell?_of_block (w := w) (W.other _ (hfree (.bx k') ⟨bcs, e1⟩))
theorem viewS_rp {p : PV} {n : Nat} {cs : List PV} {v : Value} (h : viewS p = some (n, cs)) (hr : Rp w Pr p v) :
    (n = 0 ∧ cs = [] ∧ v = .slice none 0 0) ∨ ∃ sz b o cap vs, p = .sl sz n cs ∧ v = .slice (some ⟨b, o, none⟩) n cap ∧ RpL w Pr cs vs ∧ One vs ∧ cs.length = n * sz ∧ n ≤ cap ∧ w.rangeAt b o vs ∧ ∀ i, i < vs.length → Pr b (o + i) := by
  unfold viewS at h
  split at h
  · simp at h; obtain ⟨rfl, rfl⟩ := h; cases hr; exact .inl ⟨rfl, rfl, rfl⟩
  · simp at h; obtain ⟨rfl, rfl⟩ := h
    cases hr with
    | sl hr h1 hl hn hc hp => exact .inr ⟨_, _, _, _, _, rfl, rfl, hr, h1, hl, hn, hc, hp⟩
    | sl0 => exact .inl ⟨rfl, rfl, rfl⟩
  · simp at h
theorem src_of {y : Operand} {m s : Nat} {new : List PV} {U e' : TypeId} (I : Inv base w Pr bk st a N) (hy : (st.pv y).bind viewS = some (m, new)) (hl : new.length = m * s) (hU : P.underlying U = some (.slice e')) :
    ∃ news, RpL w Pr new news ∧ One news ∧ Src P s U (a.eval y) m news w := by
  rw [Option.bind_eq_some_iff] at hy
  obtain ⟨p, hp, hv⟩ := hy
  rcases viewS_rp hv (pv_rp I hp) with ⟨rfl, rfl, h⟩ | ⟨sz, b, o, cap, vs, rfl, h, hr, h1, hl2, hn, hc, hpr⟩
  · exact ⟨[], .nil, fun _ h => by simp at h, by rw [h]; exact Src.ofNil w hU 0⟩
  · refine ⟨vs, hr, h1, ?_⟩
    rw [h]
    exact Src.ofSlice w hU ⟨b, o, none⟩ m cap vs (by rw [← hr.length]; exact hl) (fun j u hj => by rw [Addr.add_mid]; exact hc j u hj) h1
theorem exec_append {o : Oper} {x y : Operand} {T U : TypeId} {args : Array Operand} {ts : Array TypeId} (ho : o.op = .call { callee := .builtin .append, args := args, argTypes := ts }) (ha : args.toList = [x, y]) (ht : ts.toList = [T, U]) {v : Value} {w' : World}
    (h : (Builtin.append_ #[T, U] o.type #[a.eval x, a.eval y]).run P w = .ok v w') : (execOp a.eval o).run P w = .ok (.value v) w' := by
  have he := exec_builtin (P := P) (w := w) (a := a) ho
  rw [args2 ha] at he
  have hts : ts = #[T, U] := Array.ext' (by simpa using ht)
  rw [he, hts]
  exact run_v (by simpa using h)
/-- A new row behind all: the rows' cells, and room. -/
theorem eok_grown (I : Inv base w Pr bk st a N) {o : Oper} {d s c : Nat} {cs : List PV} {vs : List Value} {n : Nat} {e : TypeId} {tail : Array Value} (hdst : o.dst = some d) (hd : d < N) (hs : 0 < s)
    (hr : RpL w Pr cs vs) (h1 : One vs) (hl : cs.length = n * s) (hn : n ≤ c) (htail : tail.size = (c - n) * s)
    (he : (execOp a.eval o).run P w = .ok (.value (.slice (some ⟨w.heap.size, 0, none⟩) n c)) (w.drew.alloc (.cells (vs.toArray ++ tail) e))) :
    EOk P base w Pr bk st a N o (st.made (some d) { v := .pv (.sl s n cs), gr := some s }) := by
  have hlen := hr.length
  have hf : Fw w Pr (w.drew.alloc (.cells (vs.toArray ++ tail) e)) (fun b o => Pr b o ∨ (b = w.heap.size ∧ o < n * s)) :=
    ⟨((Below.refl _ _).drew).alloc (by simp) _, fun b o h => .inl h, fun b o hb h => h.resolve_right (fun h => by omega), fun b o h => by
      simp only [World.size_alloc, World.size_drew]
      rcases h with h | h
      · have := I.prot b o h; omega
      · omega⟩
  have hh : (w.drew.alloc (.cells (vs.toArray ++ tail) e)).heap[w.heap.size]? = some (.cells (vs.toArray ++ tail) e (0, 0)) := heap_alloc w.drew _
  have hsz : (vs.toArray ++ tail).size = c * s := by
    simp only [Array.size_append, List.size_toArray, htail, ← hlen, hl]
    rw [← Nat.add_mul]; congr 1; omega
  have hroom : Room (w.drew.alloc (.cells (vs.toArray ++ tail) e)) (fun b o => Pr b o ∨ (b = w.heap.size ∧ o < n * s)) w.heap.size 0 n c s :=
    ⟨hs, hn, ⟨_, _, hh, by rw [hsz]; omega⟩, fun o' h => by
      rcases h with h | h
      · exact absurd (I.prot _ _ h) (by omega)
      · omega⟩
  have hrp : Rp (w.drew.alloc (.cells (vs.toArray ++ tail) e)) (fun b o => Pr b o ∨ (b = w.heap.size ∧ o < n * s)) (.sl s n cs) (.slice (some ⟨w.heap.size, 0, none⟩) n c) := by
    refine .sl (RpL.mono (hf.kp I.prot) hr) h1 hl hn (fun j v hj => ?_) (fun i hi => .inr ⟨rfl, by omega⟩)
    rw [cell_of_row _ _ _ _ _ _ hh, Nat.zero_add, ← hj]
    have hlt : j < vs.length := (List.getElem?_eq_some_iff.1 hj).1
    rw [Array.getElem?_append_left (by simpa using hlt)]; simp
  have I2 := I.fw hf
  have hm : MadeOk base (w.drew.alloc (.cells (vs.toArray ++ tail) e)) (fun b o => Pr b o ∨ (b = w.heap.size ∧ o < n * s)) bk st a { v := .pv (.sl s n cs), gr := some s } (.slice (some ⟨w.heap.size, 0, none⟩) n c) := by
    refine ⟨fun _ _ => hrp, fun _ _ _ h => by simp at h, fun z hz => ?_, fun q h => by simp at h⟩
    simp only [Option.some.injEq] at hz; subst hz
    exact ⟨w.heap.size, 0, n, c, cs, rfl, rfl, hroom, I.hb, by simp, fun x hx e => by have := (I.own x hx).2; omega⟩
  obtain ⟨bk', hI, hbk⟩ := I2.made0 hd hm
  intro K Q hK
  unfold Oper.wp
  rw [he]
  show K (a.put o.dst _) _
  rw [hdst]
  exact hK _ _ _ _ hI (hf.bel.mono I.hb) (hf.kp I.prot) (fun b o hb h => hf.old b o (Nat.lt_of_lt_of_le hb I.hb) h) hf.ko (fun k _ => hbk k) rfl
end
end Go.Proofs.YtibbgjafjhcemaaDoor.Cul
