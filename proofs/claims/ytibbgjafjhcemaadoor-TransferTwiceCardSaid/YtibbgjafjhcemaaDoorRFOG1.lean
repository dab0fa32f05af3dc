/- Part of a proof by an abstract machine for the program's code: lemmas, without conditions of their own beyond those that each states. -/
import Derived.Deep.AppendSrc
import Derived.Deep.Upon
import Derived.OrdersIn
import Derived.LoopNIn
import Derived.TacticsIn
import Derived.OwnWalkIn
import Derived.RangeFuncCalls
import Derived.RangeFuncLeaves
import Derived.RangeFuncNested
import Derived.Test.YtibbgjafjhcemaaDoorRFOG0
/-! M13 -/
set_option linter.unusedVariables false
set_option linter.unusedSimpArgs false
namespace Go.Proofs.YtibbgjafjhcemaaDoor.Cul
open Go Go.RowKit
section
variable {P : Program} {base : Nat} {w : World} {Pr : Prot} {bk : Key → Nat} {st : St} {a : Act} {N : Nat}
theorem run_storeVar_row' (w : World) (g o : Nat) (t : TypeId) (ty : TypeId) (cur : Array Value) (v : Value) (hg : w.heap[g]? = some (.cells cur t (0, 0))) (hle : o + v.cells.toList.length ≤ cur.size)
    (hi : sizeT P ty = some v.cells.toList.length) (h1 : One v.cells.toList) : (storeVar ty ⟨g, o, none⟩ v).run P w = .ok () (w.setRow g (spliceV cur.toList o v.cells.toList).toArray) := by
  have h := run_storeCells_at (P := P) g o t v.cells.toList 0 cur w hg (by omega) h1
  simp only [storeVar, Sem.run_bind, run_sizeT hi, Result.andThen_ok]
  rw [if_neg (by rw [Array.length_toList]; simp)]
  simpa [spliceV] using h
/-- A row that may be appended to goes from a slot into a variable's cell. -/
theorem Inv.grantC (I : Inv base w Pr bk st a N) {u k off z : Nat} (hz : lookP st.gr (.s u) = some z) {bcs : List PV} (hb : look st.bx k = some bcs) {n : Nat} {cs : List PV} (hp : bcs[off]? = some (.sl z n cs))
    (hv : w.cell? ⟨bk (.bx k), off, none⟩ = a.tmps[u]?) (hu : look st.sl u = some (.pv (.sl z n cs)))
    (ht0 : ∀ t, look st.tg t ≠ some (some (.c k off))) :
    ∃ bk', Inv base w Pr bk' { st with gr := (.c k off, z) :: st.gr.filter (fun x => x.1 ≠ .s u), tg := st.tg.map (killT (.s u)) } a N ∧ ∀ j, bk' (.bx j) = bk (.bx j) := by
  obtain ⟨o, n', cap, cs', e1, e2, e3, e0⟩ := I.grs u z hz
  rw [hu] at e1; cases e1
  have hne : ∀ t, Pl.s u = .s t → ¬ exAt st t := fun t e ⟨sz, m, c, h⟩ => by cases e; rw [hu] at h; simp at h
  have I2 := I.release (.s u)
  have hlive0 : ∀ x, live { st with gr := (.c k off, z) :: st.gr.filter (fun x => x.1 ≠ .s u), tg := st.tg.map (killT (.s u)) } x → x = .cx k off ∨ (x ≠ .cx k off ∧ live st x ∧ x ≠ .sx u) := by
    intro x hx
    by_cases hxk : x = .cx k off
    · exact .inl hxk
    · have : live { st with gr := st.gr.filter (fun x => x.1 ≠ .s u), tg := st.tg.map (killT (.s u)) } x := by
        cases x with
        | bx k' => exact hx
        | sx t =>
          rcases hx with hx | ⟨z', hx⟩
          · exact .inl hx
          · simp only [lookP] at hx; rw [if_neg (by simp)] at hx; exact .inr ⟨z', hx⟩
        | cx k' o' =>
          obtain ⟨z', hx⟩ := hx
          simp only [lookP] at hx
          rw [if_neg (fun e => hxk (by cases e; rfl))] at hx; exact ⟨z', hx⟩
      obtain ⟨h1, h2⟩ := live_release this hne
      exact .inr ⟨hxk, h1, h2⟩
  obtain ⟨bk', hk1, hk2⟩ : ∃ bk' : Key → Nat, (∀ x, x ≠ .cx k off → bk' x = bk x) ∧ bk' (.cx k off) = bk (.sx u) := ⟨fun x => if x = .cx k off then bk (.sx u) else bk x, fun x hx => if_neg hx, if_pos rfl⟩
  have hbx : ∀ k, bk' (.bx k) = bk (.bx k) := fun k => hk1 _ (by simp)
  have hsx : ∀ t, bk' (.sx t) = bk (.sx t) := fun t => hk1 _ (by simp)
  have hlu : live st (.sx u) := .inr ⟨z, hz⟩
  refine ⟨bk', ?_, hbx⟩
  constructor
  · exact I.size
  · exact I.defers
  · exact I.hb
  · exact I.prot
  · intro t av ht
    obtain ⟨v, h1, h2⟩ := I2.slots t av ht
    refine ⟨v, h1, ?_⟩
    cases av with
    | pv p => exact h2
    | bp k off => simp only [RpA] at h2 ⊢; rw [hbx]; exact h2
    | cl f caps =>
      obtain ⟨us, e1, e2, e3⟩ := h2
      refine ⟨us, e1, e2, fun i c x hc hx => ?_⟩
      have e4 := e3 i c x hc hx
      cases c with
      | pv p => exact e4
      | bp k off => simp only [CapRp] at e4 ⊢; rw [hbx]; exact e4
    | ex sz n c => simp only [RpA] at h2 ⊢; rw [hsx]; exact h2
    | xr u => exact h2
    | xe u off => exact h2
    | newp _ _ => exact h2
    | dead => trivial
    | bs j o' sz n => exact h2.frame (hbx j) fun cs e => ⟨cs, e, rfl⟩
    | mv f j o' sz n => obtain ⟨u, e1, e2⟩ := h2; exact ⟨u, e1, e2.frame (hbx j) fun cs e => ⟨cs, e, rfl⟩⟩
    | tg j o' sz n rest => obtain ⟨u, us, e1, e2, e3⟩ := h2; exact ⟨u, us, e1, e2.frame (hbx j) fun cs e => ⟨cs, e, rfl⟩, e3⟩
  · intro x hx
    rcases hlive0 x hx with rfl | ⟨h0, h1, _⟩
    · rw [hk2]; exact I.own _ hlu
    · rw [hk1 x h0]; exact I.own x h1
  · intro x y hx hy e
    rcases hlive0 x hx with rfl | ⟨h0, h1, h2⟩
    · rcases hlive0 y hy with rfl | ⟨h0', h1', h2'⟩
      · rfl
      · rw [hk2, hk1 y h0'] at e; exact absurd (I.inj _ _ hlu h1' e).symm h2'
    · rcases hlive0 y hy with rfl | ⟨h0', h1', h2'⟩
      · rw [hk2, hk1 x h0] at e; exact absurd (I.inj _ _ h1 hlu e) h2
      · rw [hk1 x h0, hk1 y h0'] at e; exact I.inj x y h1 h1' e
  · intro k' cs' hk
    rw [hbx]; exact I.boxes k' cs' hk
  · intro t z' hz'
    simp only [lookP] at hz'
    rw [if_neg (by simp)] at hz'
    obtain ⟨o', n'', cap', c, h1, h2, h3, h0⟩ := I2.grs t z' hz'
    exact ⟨o', n'', cap', c, h1, by rw [hsx]; exact h2, by rw [hsx]; exact h3, h0⟩
  · intro k' i z' hz'
    simp only [lookP] at hz'
    by_cases e : Pl.c k off = Pl.c k' i
    · cases e
      simp only [if_true, Option.some.injEq] at hz'
      subst hz'
      exact ⟨o, n, cap, cs, bcs, hb, hp, by rw [hbx, hk2, hv]; exact e2, by rw [hk2]; exact e3, e0⟩
    · rw [if_neg e] at hz'
      obtain ⟨o', n'', cap', c, bcs', h1, h2, h3, h4, h0⟩ := I2.grc k' i z' hz'
      have : bk' (.cx k' i) = bk (.cx k' i) := hk1 _ (fun e2 => e (by cases e2; rfl))
      exact ⟨o', n'', cap', c, bcs', h1, h2, by rw [hbx, this]; exact h3, by rw [this]; exact h4, h0⟩
  · intro t q ht hq
    simp only at ht
    rw [look_killT] at ht
    cases hm : look st.tg t with
    | none => simp [hm] at ht
    | some p =>
      simp only [hm, Option.map_some, Option.some.injEq] at ht
      split at ht
      · simp at ht
      · rename_i hps
        subst ht
        obtain ⟨z', hz'⟩ := hq
        simp only [lookP] at hz'
        by_cases e : Pl.c k off = q
        · subst e
          exact absurd hm (ht0 t)
        · rw [if_neg e] at hz'
          rw [lookP_ne] at hz'
          split at hz'
          · simp at hz'
          · have := I.tags t q hm ⟨z', hz'⟩
            cases q with
            | s u => exact this
            | c k o => simp only [placeVal] at this ⊢; rw [hbx]; exact this
/-- An element of an array of the frame's own is written. -/
theorem Inv.setEx (I : Inv base w Pr bk st a N) {u off sz n : Nat} {cs new : List PV} {vs : List Value} (hu : look st.sl u = some (.ex sz n cs)) (hle : off + new.length ≤ cs.length) (hr : RpL w Pr new vs) (h1 : One vs)
    {b o : Nat} {n' cap' : Nat} (hv : a.tmps[u]? = some (.slice (some ⟨b, o, none⟩) n' cap')) :
    ∃ cur T, w.heap[b]? = some (.cells cur T (0, 0)) ∧ o + off + vs.length ≤ cur.size ∧ base ≤ b ∧ Kp w Pr (w.setRow b (spliceV cur.toList (o + off) vs).toArray) Pr ∧
      Inv base (w.setRow b (spliceV cur.toList (o + off) vs).toArray) Pr bk { st with sl := (u, .ex sz n (splice cs off new)) :: drop1 st.sl u } a N := by
  obtain ⟨v, hv1, o2, cap, us, hve, hu2, hu3, hu4, hu5, hu6, hu7⟩ := I.slots u _ hu
  rw [hv] at hv1
  simp only [Option.some.injEq] at hv1
  rw [← hv1] at hve
  simp only [Value.slice.injEq, Option.some.injEq, Addr.mk.injEq] at hve
  obtain ⟨⟨rfl, rfl, _⟩, rfl, rfl⟩ := hve
  obtain ⟨cur, T, hc1, hc2⟩ := hu6.there
  have hlive : live st (.sx u) := .inl ⟨sz, n', cs, hu⟩
  have hown := I.own _ hlive
  have hlen := hr.length
  have hlen2 := hu2.length
  have hcap : n' * sz ≤ cap' * sz := Nat.mul_le_mul_right _ hu6.le
  have hW := wr_setRow w (bk (.sx u)) (spliceV cur.toList (o + off) vs).toArray hc1 (by rw [List.size_toArray, spliceV_size (by simp; omega)]; simp)
  have hK : Kp w Pr (w.setRow (bk (.sx u)) (spliceV cur.toList (o + off) vs).toArray) Pr := ⟨fun _ _ h => h, fun b o' hp => by
    have hne : b ≠ bk (.sx u) := fun e => hu7 o' (by rw [← e]; exact hp)
    exact World.cell?_of_block (w := w) (hW.other b hne)⟩
  have hh : (w.setRow (bk (.sx u)) (spliceV cur.toList (o + off) vs).toArray).heap[bk (.sx u)]? = some (.cells (spliceV cur.toList (o + off) vs).toArray T (0, 0)) := setRow_heap w _ _ _ _ _ hc1
  have hsz : (spliceV cur.toList (o + off) vs).length = cur.size := by unfold spliceV; simp; omega
  have hne : ∀ x, live st x → x ≠ .sx u → bk x ≠ bk (.sx u) := fun x hx hxk e => hxk (I.inj x (.sx u) hx hlive e)
  have hsl : ∀ t, look ((u, AV.ex sz n' (splice cs off new)) :: drop1 st.sl u) t = if t = u then some (.ex sz n' (splice cs off new)) else look st.sl t := by
    intro t; simp only [look]
    by_cases e : u = t
    · simp [e]
    · rw [if_neg e, look_drop1, if_neg (Ne.symm e), if_neg (Ne.symm e)]
  have hex : ∀ x, exAt { st with sl := (u, AV.ex sz n' (splice cs off new)) :: drop1 st.sl u } x ↔ exAt st x := by
    intro x; simp only [exAt, hsl]
    by_cases e : x = u
    · subst e; simp only [if_true]; exact ⟨fun _ => ⟨_, _, _, hu⟩, fun _ => ⟨_, _, _, rfl⟩⟩
    · rw [if_neg e]
  have hlv : ∀ x, live { st with sl := (u, AV.ex sz n' (splice cs off new)) :: drop1 st.sl u } x → live st x := by
    intro x hx
    cases x with
    | sx t => exact hx.imp (hex t).1 id
    | bx k => exact hx
    | cx k o => exact hx
  refine ⟨cur, T, hc1, by omega, hown.1, hK, ?_⟩
  constructor
  · exact I.size
  · exact ⟨fun d hd => (I.defers.1 d hd).ko hW.ko, I.defers.2⟩
  · simpa using I.hb
  · simpa using I.prot
  · intro t av ht
    rw [hsl] at ht
    by_cases e : t = u
    · subst e
      rw [if_pos rfl] at ht
      simp only [Option.some.injEq] at ht; subst ht
      refine ⟨_, hv, o, cap', spliceV us off vs, rfl, RpL.mono hK ?_, ?_, ?_, ?_, ⟨hu6.hz, hu6.le, ⟨_, _, hh, by simp [hsz]; exact hc2⟩, hu6.pr⟩, hu7⟩
      · unfold splice spliceV; rw [hlen]; exact ((hu2.take off).app hr).app (hu2.drop _)
      · intro x hx
        unfold spliceV at hx
        simp only [List.mem_append] at hx
        rcases hx with (hx | hx) | hx
        · exact hu3 x (List.mem_of_mem_take hx)
        · exact h1 x hx
        · exact hu3 x (List.mem_of_mem_drop hx)
      · unfold splice; simp; omega
      · intro j x hx
        rw [cell_of_row _ _ _ _ _ _ hh]
        simp only [List.getElem?_toArray]
        by_cases hj : off ≤ j ∧ j < off + vs.length
        · unfold spliceV at hx ⊢
          rw [List.append_assoc, List.getElem?_append_right (by simp; omega), List.getElem?_append_left (by simp; omega)] at hx
          rw [List.append_assoc, List.getElem?_append_right (by simp; omega), List.getElem?_append_left (by simp; omega), ← hx]
          congr 1
          simp only [List.length_take, Array.length_toList]
          omega
        · have hj1 : us[j]? = some x := by rw [← hx]; exact (splice_get us off vs (by omega) j (by omega)).symm
          have hc := hu5 j x hj1
          rw [cell_of_row _ _ _ _ _ _ hc1] at hc
          rw [← hc]
          have := splice_get cur.toList (o + off) vs (by simp; omega) (o + j) (by omega)
          simpa [spliceV] using this
    · rw [if_neg e] at ht
      obtain ⟨v, hv', hrp⟩ := I.slots t av ht
      refine ⟨v, hv', ?_⟩
      have := RpA.wr hW hK (fun sz n c e2 => hne (.sx t) (.inl ⟨sz, n, c, by rw [← e2]; exact ht⟩) (by simpa using e)) hrp
      cases av with
      | xr x => exact ⟨this.1, (hex x).2 this.2⟩
      | xe x off => exact ⟨this.1, (hex x).2 this.2⟩
      | _ => exact this
  · exact fun x hx => by simpa using I.own x (hlv x hx)
  · exact fun x y hx hy => I.inj x y (hlv x hx) (hlv y hy)
  · intro k' cs' hq
    obtain ⟨⟨T', c', us', e1, e0, e2, e3⟩, e4⟩ := I.boxes k' cs' hq
    exact ⟨⟨T', c', us', (hW.other _ (hne (.bx k') ⟨cs', hq⟩ (by simp))).trans e1, e0, RpL.mono hK e2, e3⟩, e4⟩
  · intro t z hz
    obtain ⟨o', n, cap, c, e1, e2, e3, e0⟩ := I.grs t z hz
    have htu : t ≠ u := fun e => by subst e; rw [hu] at e1; simp at e1
    exact ⟨o', n, cap, c, by rw [hsl, if_neg htu]; exact e1, e2, e3.wr hW (hne (.sx t) (.inr ⟨z, hz⟩) (by simpa using htu)), e0⟩
  · intro k' i z hz
    obtain ⟨o', n, cap, c, bcs, e1, e2, e3, e4, e0⟩ := I.grc k' i z hz
    exact ⟨o', n, cap, c, bcs, e1, e2, (World.cell?_of_block (w := w) (hW.other _ (hne (.bx k') ⟨bcs, e1⟩ (by simp)))).trans e3, e4.wr hW (hne (.cx k' i) ⟨z, hz⟩ (by simp)), e0⟩
  · intro t q ht hq
    rw [← I.tags t q ht hq]
    cases q with
    | s x => rfl
    | c k' i =>
      obtain ⟨z, hz⟩ := hq
      obtain ⟨o', n, cap, c, bcs, e1, e2, e3, e4, e0⟩ := I.grc k' i z hz
      exact World.cell?_of_block (w := w) (hW.other _ (hne (.bx k') ⟨bcs, e1⟩ (by simp)))
theorem eok_store (I : Inv base w Pr bk st a N) {o : Oper} {t : TypeId} {x y : Operand} {st' : St} (ho : o.op = .store t x y) (h : effect P o st = some st') : EOk P base w Pr bk st a N o st' := by
  simp only [effect, ho] at h
  split at h
  · rename_i hdst
    have he : ∀ b o' w', a.eval x = .pointer (some ⟨b, o', none⟩) → (storeVar t ⟨b, o', none⟩ (a.eval y)).run P w = .ok () w' → (execOp a.eval o).run P w = .ok .skip w' := fun b o' w' hx hs => by
      simp only [execOp, ho, hx, Sem.run_bind]
      simp [Instr.storeAt, Instr.sureAddr, hs]
    have hput : a.put o.dst undef = a := by rw [hdst]; rfl
    split at h
    · rename_i k off heq
      -- a variable of the frame's own
      have main : ∀ p st1, st.ev y = some (.pv p) → some p.cells.length = sizeT P t → isTup p = false → st.setBox k off p.cells = some st1 →
          ∃ w', (execOp a.eval o).run P w = .ok .skip w' ∧ base ≤ bk (.bx k) ∧ Wr w w' (bk (.bx k)) ∧ Kp w Pr w' Pr ∧ Inv base w' Pr bk st1 a N ∧ (∀ v0, (a.eval y).cells.toList = [v0] → w'.cell? ⟨bk (.bx k), off, none⟩ = some v0) := by
        intro p st1 hy hsz htup hset
        have hv := ev_pv I hy
        obtain ⟨hc1, hc2⟩ := hv.cells_rp (notTup_ne htup)
        have hl := hc1.length
        obtain ⟨cur, T, h1, h2, h3, h4, h5⟩ := I.setBox hset hc1 hc2
        exact ⟨_, he _ _ _ (ev_bp I heq) (run_storeVar_row' w _ off T t cur _ h1 h2 (by rw [← hl]; exact hsz.symm) hc2), h3, wr_setRow _ _ _ h1 (by rw [List.size_toArray, spliceV_size (by simpa using h2)]; simp), h4, h5, fun v0 h0 => by
          rw [cell_of_row _ _ _ _ _ _ (setRow_heap w _ _ _ _ _ h1), h0]
          rw [h0] at h2
          simp only [List.length_singleton] at h2
          simp only [List.getElem?_toArray, spliceV]
          rw [List.append_assoc, List.getElem?_append_right (by simp; omega)]
          simp [Nat.min_eq_left (show off ≤ cur.size by omega)]⟩
      split at h
      · rename_i u p hy
        split at h
        · rename_i hc
          simp only [Option.map_eq_some_iff] at h
          obtain ⟨s1, hset, h⟩ := h
          obtain ⟨w', hr, hb, hW, hK, hI, hcell⟩ := main p s1 hy hc.1 hc.2 hset
          have fin : ∀ bk', Inv base w' Pr bk' st' a N → (∀ j, bk' (.bx j) = bk (.bx j)) → EOk P base w Pr bk st a N o st' := fun bk' hI' hbk K Q hKK => by
            unfold Oper.wp; rw [hr]
            show K (a.put o.dst undef) w'
            rw [hput]
            exact hKK _ _ _ _ hI' (hW.below hb) hK (fun _ _ _ h => h) hW.ko (fun k _ => hbk k) rfl
          split at h
          · rename_i z hz hrow
            subst h
            -- the row goes over into the cell
            have hset0 := hset
            simp only [St.setBox, Option.bind_eq_some_iff] at hset
            obtain ⟨cs, hk, hset⟩ := hset
            split at hset
            · rename_i hle
              simp only [Option.some.injEq] at hset
              have hz0 : lookP st.gr (.s u) = some z := by
                rw [← hset] at hz; simp only at hz; rw [lookP_out] at hz; simpa [Pl.out] using hz
              obtain ⟨o2, n, cap, c, e1, e2, e3, _⟩ := I.grs u z hz0
              have hp : p = .sl z n c := by
                have : look st.sl u = some (.pv p) := hy
                rw [e1] at this; simpa using this.symm
              subst hp
              have q1 : look s1.bx k = some (splice cs off [.sl z n c]) := by rw [← hset]; simp [look, PV.cells]
              have q2 : (splice cs off [.sl z n c])[off]? = some (.sl z n c) := by
                simp only [PV.cells, List.length_singleton] at hle
                unfold splice
                rw [List.append_assoc, List.getElem?_append_right (by simp; omega)]
                simp [Nat.min_eq_left (show off ≤ cs.length by omega)]
              have q3 : w'.cell? ⟨bk (.bx k), off, none⟩ = a.tmps[u]? := by
                rw [e2]; refine hcell _ ?_
                rw [eval_tmp e2]; rfl
              have q4 : look s1.sl u = some (.pv (.sl z n c)) := by rw [← hset]; exact e1
              have q5 : ∀ t, look s1.tg t ≠ some (some (.c k off)) := by
                intro t' ht'
                rw [← hset] at ht'; simp only at ht'
                rw [look_map (killOut k off _) (fun _ x => x.bind fun p => if p.out k off _ then some p else none) (fun _ => rfl)] at ht'
                cases hm : look st.tg t' with
                | none => simp [hm] at ht'
                | some p0 =>
                  simp only [hm, Option.map_some, Option.some.injEq, Option.bind_eq_some_iff] at ht'
                  obtain ⟨p', _, ht'⟩ := ht'
                  split at ht'
                  · rename_i hout
                    simp only [Option.some.injEq] at ht'; subst ht'
                    simp [Pl.out, PV.cells] at hout
                  · simp at ht'
              obtain ⟨bk', hI', hbk⟩ := hI.grantC hz q1 q2 q3 q4 q5
              exact fin bk' hI' hbk
            · simp at hset
          · subst h; exact fin bk hI (fun _ => rfl)
        · simp at h
      · rename_i p hy1 hy
        split at h
        · rename_i hc
          obtain ⟨w', hr, hb, hW, hK, hI, _⟩ := main p st' hy hc.1 hc.2 h
          intro K Q hKK
          unfold Oper.wp; rw [hr]
          show K (a.put o.dst undef) w'
          rw [hput]
          exact hKK _ _ _ _ hI (hW.below hb) hK (fun _ _ _ h => h) hW.ko (fun _ _ => rfl) rfl
        · simp at h
      · simp at h
    · rename_i u off heq
      split at h
      · rename_i sz n cs p hu hp
        split at h
        · rename_i hc
          simp only [Option.some.injEq] at h; subst h
          obtain ⟨t', ⟨b, o2, n2, cap2, h1, h2⟩, h3⟩ := ev_rp I heq
          have hv := pv_rp I hp
          obtain ⟨hc1, hc2⟩ := hv.cells_rp (notTup_ne hc.2.1)
          obtain ⟨cur, T, e1, e2, e3, e4, e5⟩ := I.setEx hu hc.2.2 hc1 hc2 h1
          intro K Q hKK
          unfold Oper.wp
          rw [he _ _ _ h2 (run_storeVar_row' w _ _ T t cur _ e1 e2 (by rw [← hc1.length]; exact hc.1.symm) hc2)]
          show K (a.put o.dst undef) _
          rw [hput]
          have hW := wr_setRow w b (spliceV cur.toList (o2 + off) (a.eval y).cells.toList).toArray e1 (by rw [List.size_toArray, spliceV_size (by simpa using e2)]; simp)
          exact hKK _ _ _ _ e5 (hW.below e3) e4 (fun _ _ _ h => h) hW.ko (fun _ _ => rfl) rfl
        · simp at h
      · simp at h
    · simp at h
  · simp at h
end
end Go.Proofs.YtibbgjafjhcemaaDoor.Cul
/-! M14 -/
set_option linter.unusedVariables false
set_option linter.unusedSimpArgs false
namespace Go.Proofs.YtibbgjafjhcemaaDoor.Cul
open Go Go.RowKit
section
variable {P : Program} {base : Nat} {w : World} {Pr : Prot} {bk : Key → Nat} {st : St} {a : Act} {N : Nat}
theorem setCells_eq {b : Nat} {T : TypeId} : ∀ (vs : List Value) (o : Nat) (cur : Array Value) (w : World), w.heap[b]? = some (.cells cur T (0, 0)) → o + vs.length ≤ cur.size →
    w.setCells b o vs = w.setRow b (spliceV cur.toList o vs).toArray
  | [], o, cur, w, hg, h => by
    simp only [World.setCells, spliceV, List.append_nil, List.length_nil, Nat.add_zero, List.take_append_drop, Array.toArray_toList]
    exact (setRow_self w b cur T (0, 0) hg).symm
  | v :: r, o, cur, w, hg, h => by
    simp only [List.length_cons] at h
    rw [World.setCells, setCell_eq_setRow w b o cur T (0, 0) v hg]
    rw [setCells_eq r (o + 1) (cur.setIfInBounds o v) _ (setRow_heap w b cur _ T _ hg) (by simp; omega), setRow_setRow]
    congr 2
    unfold spliceV
    simp only [Array.toList_setIfInBounds, List.length_cons]
    have e2 : o + 1 + r.length = o + (r.length + 1) := by omega
    rw [e2, List.take_set, List.drop_set_of_lt (by omega)]
    have hlt : o < cur.toList.length := by simp; omega
    rw [List.take_succ_eq_append_getElem hlt, List.set_append_right _ _ (by simp; omega)]
    simp [Nat.min_eq_left (show o ≤ cur.size by omega)]
/-- Cells are written in a block that nobody speaks of as_ his own. -/
theorem Inv.wr_free (I : Inv base w Pr bk st a N) {w' : World} {Pr' : Prot} {g : Nat} (W : Wr w w' g) (hg : g < w.heap.size) (hfree : ∀ x, live st x → bk x ≠ g) (k : Kp w Pr w' Pr') (hP : ∀ b o, Pr' b o → b ≠ g → Pr b o) : Inv base w' Pr' bk st a N := by
  have hPn : ∀ x, live st x → ∀ o, Pr' (bk x) o → Pr (bk x) o := fun x hx o h => hP _ _ h (hfree x hx)
  have hroom : ∀ x, live st x → ∀ {o n cap sz}, Room w Pr (bk x) o n cap sz → Room w' Pr' (bk x) o n cap sz := fun x hx {o n cap sz} h =>
    ⟨h.hz, h.le, by obtain ⟨c, T, e1, e2⟩ := h.there; exact ⟨c, T, (W.other _ (hfree x hx)).trans e1, e2⟩, fun o' ho => h.pr o' (hPn x hx _ ho)⟩
  constructor
  · exact I.size
  · exact ⟨fun d hd => (I.defers.1 d hd).ko W.ko, I.defers.2⟩
  · rw [W.size]; exact I.hb
  · intro b o h
    rw [W.size]
    by_cases e : b = g
    · rw [e]; exact hg
    · exact I.prot b o (hP b o h e)
  · intro t av ht
    obtain ⟨v, hv, hr⟩ := I.slots t av ht
    refine ⟨v, hv, ?_⟩
    cases av with
    | pv p => exact Rp.mono k hr
    | bp k off => exact hr
    | cl f caps => obtain ⟨vs, h1, h2, h3⟩ := hr; exact ⟨vs, h1, h2, fun i c u hc hu => CapRp.mono k (h3 i c u hc hu)⟩
    | ex sz n cs =>
      obtain ⟨o, cap, vs, h1, h2, h3, h4, h5, h6, h7⟩ := hr
      have hl : live st (.sx t) := .inl ⟨sz, n, cs, ht⟩
      exact ⟨o, cap, vs, h1, RpL.mono k h2, h3, h4, rangeAt_heap (W.other _ (hfree _ hl)) h5, hroom _ hl h6, fun o' ho => h7 o' (hPn _ hl _ ho)⟩
    | xr u => exact hr
    | xe u off => exact hr
    | newp _ _ => exact hr
    | dead => trivial
    | bs j off sz n => exact hr.world fun c T e => W.ko.sized _ c T _ e
    | mv f j off sz n => obtain ⟨u, h1, h2⟩ := hr; exact ⟨u, h1, h2.world fun c T e => W.ko.sized _ c T _ e⟩
    | tg j off sz n rest => obtain ⟨u, us, h1, h2, h3⟩ := hr; exact ⟨u, us, h1, h2.world fun c T e => W.ko.sized _ c T _ e, RpL.mono k h3⟩
  · exact fun x hx => by rw [W.size]; exact I.own x hx
  · exact I.inj
  · intro k' cs' hq
    obtain ⟨⟨T', c', us', e1, e0, e2, e3⟩, e4⟩ := I.boxes k' cs' hq
    have hl : live st (.bx k') := ⟨cs', hq⟩
    exact ⟨⟨T', c', us', (W.other _ (hfree _ hl)).trans e1, e0, RpL.mono k e2, e3⟩, fun o ho => e4 o (hPn _ hl _ ho)⟩
  · intro t z hz
    obtain ⟨o', n, cap, c, e1, e2, e3, e0⟩ := I.grs t z hz
    exact ⟨o', n, cap, c, e1, e2, hroom (.sx t) (.inr ⟨z, hz⟩) e3, e0⟩
  · intro k' i z hz
    obtain ⟨o', n, cap, c, bcs, e1, e2, e3, e4, e0⟩ := I.grc k' i z hz
    exact ⟨o', n, cap, c, bcs, e1, e2, (World.cell?_of_block (w := w) (W.other _ (hfree (.bx k') ⟨bcs, e1⟩))).trans e3, hroom (.cx k' i) ⟨z, hz⟩ e4, e0⟩
  · intro t q ht hq
    rw [← I.tags t q ht hq]
    cases q with
    | s x => rfl
    | c k' i =>
      obtain ⟨z, hz⟩ := hq
      obtain ⟨o', n, cap, c, bcs, e1, e2, e3, e4, e0⟩ := I.grc k' i z hz
      exact World.cell?_of_block (w := w) (W.other _ (hfree (.bx k') ⟨bcs, e1⟩))
theorem viewS_rp {p : PV} {n : Nat} {cs : List PV} {v : Value} (h : viewS p = some (n, cs)) (hr : Rp w Pr p v) :
    (n = 0 ∧ cs = [] ∧ v = .slice none 0 0) ∨ ∃ sz b o cap vs, p = .sl sz n cs ∧ v = .slice (some ⟨b, o, none⟩) n cap ∧ RpL w Pr cs vs ∧ One vs ∧ cs.length = n * sz ∧ n ≤ cap ∧ w.rangeAt b o vs ∧ ∀ i, i < vs.length → Pr b (o + i) := by
  unfold viewS at h
  split at h
  · simp at h; obtain ⟨rfl, rfl⟩ := h; cases hr; exact .inl ⟨rfl, rfl, rfl⟩
  · simp at h; obtain ⟨rfl, rfl⟩ := h
    cases hr with
    | sl hr h1 hl hn hc hp => exact .inr ⟨_, _, _, _, _, rfl, rfl, hr, h1, hl, hn, hc, hp⟩
    | sl0 => exact .inl ⟨rfl, rfl, rfl⟩
  · simp at h
theorem src_of {y : Operand} {m s : Nat} {new : List PV} {U e' : TypeId} (I : Inv base w Pr bk st a N) (hy : (st.pv y).bind viewS = some (m, new)) (hl : new.length = m * s) (hU : P.underlying U = some (.slice e')) :
    ∃ news, RpL w Pr new news ∧ One news ∧ Src P s U (a.eval y) m news w := by
  rw [Option.bind_eq_some_iff] at hy
  obtain ⟨p, hp, hv⟩ := hy
  rcases viewS_rp hv (pv_rp I hp) with ⟨rfl, rfl, h⟩ | ⟨sz, b, o, cap, vs, rfl, h, hr, h1, hl2, hn, hc, hpr⟩
  · exact ⟨[], .nil, fun _ h => by simp at h, by rw [h]; exact Src.ofNil w hU 0⟩
  · refine ⟨vs, hr, h1, ?_⟩
    rw [h]
    exact Src.ofSlice w hU ⟨b, o, none⟩ m cap vs (by rw [← hr.length]; exact hl) (fun j u hj => by rw [Addr.add_mid]; exact hc j u hj) h1
theorem exec_append {o : Oper} {x y : Operand} {T U : TypeId} {args : Array Operand} {ts : Array TypeId} (ho : o.op = .call { callee := .builtin .append, args := args, argTypes := ts }) (ha : args.toList = [x, y]) (ht : ts.toList = [T, U]) {v : Value} {w' : World}
    (h : (Builtin.append_ #[T, U] o.type #[a.eval x, a.eval y]).run P w = .ok v w') : (execOp a.eval o).run P w = .ok (.value v) w' := by
  have he := exec_builtin (P := P) (w := w) (a := a) ho
  rw [args2 ha] at he
  have hts : ts = #[T, U] := Array.ext' (by simpa using ht)
  rw [he, hts]
  exact run_v (by simpa using h)
/-- A new row behind all: the rows' cells, and room. -/
theorem eok_grown (I : Inv base w Pr bk st a N) {o : Oper} {d s c : Nat} {cs : List PV} {vs : List Value} {n : Nat} {e : TypeId} {tail : Array Value} (hdst : o.dst = some d) (hd : d < N) (hs : 0 < s)
    (hr : RpL w Pr cs vs) (h1 : One vs) (hl : cs.length = n * s) (hn : n ≤ c) (htail : tail.size = (c - n) * s)
    (he : (execOp a.eval o).run P w = .ok (.value (.slice (some ⟨w.heap.size, 0, none⟩) n c)) (w.drew.alloc (.cells (vs.toArray ++ tail) e))) :
    EOk P base w Pr bk st a N o (st.made (some d) { v := .pv (.sl s n cs), gr := some s }) := by
  have hlen := hr.length
  have hf : Fw w Pr (w.drew.alloc (.cells (vs.toArray ++ tail) e)) (fun b o => Pr b o ∨ (b = w.heap.size ∧ o < n * s)) :=
    ⟨((Below.refl _ _).drew).alloc (by simp) _, fun b o h => .inl h, fun b o hb h => h.resolve_right (fun h => by omega), fun b o h => by
      simp only [World.size_alloc, World.size_drew]
      rcases h with h | h
      · have := I.prot b o h; omega
      · omega⟩
  have hh : (w.drew.alloc (.cells (vs.toArray ++ tail) e)).heap[w.heap.size]? = some (.cells (vs.toArray ++ tail) e (0, 0)) := heap_alloc w.drew _
  have hsz : (vs.toArray ++ tail).size = c * s := by
    simp only [Array.size_append, List.size_toArray, htail, ← hlen, hl]
    rw [← Nat.add_mul]; congr 1; omega
  have hroom : Room (w.drew.alloc (.cells (vs.toArray ++ tail) e)) (fun b o => Pr b o ∨ (b = w.heap.size ∧ o < n * s)) w.heap.size 0 n c s :=
    ⟨hs, hn, ⟨_, _, hh, by rw [hsz]; omega⟩, fun o' h => by
      rcases h with h | h
      · exact absurd (I.prot _ _ h) (by omega)
      · omega⟩
  have hrp : Rp (w.drew.alloc (.cells (vs.toArray ++ tail) e)) (fun b o => Pr b o ∨ (b = w.heap.size ∧ o < n * s)) (.sl s n cs) (.slice (some ⟨w.heap.size, 0, none⟩) n c) := by
    refine .sl (RpL.mono (hf.kp I.prot) hr) h1 hl hn (fun j v hj => ?_) (fun i hi => .inr ⟨rfl, by omega⟩)
    rw [cell_of_row _ _ _ _ _ _ hh, Nat.zero_add, ← hj]
    have hlt : j < vs.length := (List.getElem?_eq_some_iff.1 hj).1
    rw [Array.getElem?_append_left (by simpa using hlt)]; simp
  have I2 := I.fw hf
  have hm : MadeOk base (w.drew.alloc (.cells (vs.toArray ++ tail) e)) (fun b o => Pr b o ∨ (b = w.heap.size ∧ o < n * s)) bk st a { v := .pv (.sl s n cs), gr := some s } (.slice (some ⟨w.heap.size, 0, none⟩) n c) := by
    refine ⟨fun _ _ => hrp, fun _ _ _ h => by simp at h, fun z hz => ?_, fun q h => by simp at h⟩
    simp only [Option.some.injEq] at hz; subst hz
    exact ⟨w.heap.size, 0, n, c, cs, rfl, rfl, hroom, rfl, I.hb, by simp, fun x hx e => by have := (I.own x hx).2; omega⟩
  obtain ⟨bk', hI, hbk⟩ := I2.made0 hd hm
  intro K Q hK
  unfold Oper.wp
  rw [he]
  show K (a.put o.dst _) _
  rw [hdst]
  exact hK _ _ _ _ hI (hf.bel.mono I.hb) (hf.kp I.prot) (fun b o hb h => hf.old b o (Nat.lt_of_lt_of_le hb I.hb) h) hf.ko (fun k _ => hbk k) rfl
end
end Go.Proofs.YtibbgjafjhcemaaDoor.Cul
/-! M15 -/
set_option linter.unusedVariables false
set_option linter.unusedSimpArgs false
namespace Go.Proofs.YtibbgjafjhcemaaDoor.Cul
open Go Go.RowKit
section
variable {P : Program} {base : Nat} {w : World} {Pr : Prot} {bk : Key → Nat} {st : St} {a : Act} {N : Nat}
theorem size_zeroCells' (z : Array Value) (n s : Nat) (h : z.size = s) : (Builtin.zeroCells z n).size = n * s := by rw [size_zeroCells, h]
/-- Into the room behind the row. -/
theorem eok_inplace (I : Inv base w Pr bk st a N) {o : Oper} {d s n m cap b off : Nat} {old new : List PV} {olds news : List Value} {q : Pl} (hdst : o.dst = some d) (hd : d < N)
    (hq : grAt st q) (hqk : bk q.key = b) (hqx : ∀ t, q = .s t → ¬ exAt st t)
    (hro : RpL w Pr old olds) (ho1 : One olds) (hrn : RpL w Pr new news) (hn1 : One news) (hlo : old.length = n * s) (hln : new.length = m * s) (hro2 : w.rangeAt b off olds) (hpo : ∀ i, i < olds.length → Pr b (off + i))
    (hR : Room w Pr b off n cap s) (hoff : off = 0) (hfit : n + m ≤ cap)
    (he : (execOp a.eval o).run P w = .ok (.value (.slice (some ⟨b, off, none⟩) (n + m) cap)) (w.setCells b (off + n * s) news)) :
    EOk P base w Pr bk st a N o (({ st with gr := st.gr.filter (fun x => x.1 ≠ q), tg := st.tg.map (killT q) }).made (some d) { v := .pv (.sl s (n + m) (old ++ new)), gr := some s }) := by
  have hlive : live st q.key := by
    cases q with
    | s t => exact .inr hq
    | c k o => exact hq
  have hown := I.own _ hlive
  rw [hqk] at hown
  obtain ⟨cur, T, hc1, hc2⟩ := hR.there
  have hlenO := hro.length
  have hlenN := hrn.length
  have hmul : (n + m) * s ≤ cap * s := Nat.mul_le_mul_right _ hfit
  have hadd : (n + m) * s = n * s + m * s := Nat.add_mul ..
  have hle : off + n * s + news.length ≤ cur.size := by omega
  rw [setCells_eq news (off + n * s) cur w hc1 hle] at he
  have hW := wr_setRow w b (spliceV cur.toList (off + n * s) news).toArray hc1 (by rw [List.size_toArray, spliceV_size (by simpa using hle)]; simp)
  have hh : (w.setRow b (spliceV cur.toList (off + n * s) news).toArray).heap[b]? = some (.cells (spliceV cur.toList (off + n * s) news).toArray T (0, 0)) := setRow_heap w _ _ _ _ _ hc1
  have hsz : (spliceV cur.toList (off + n * s) news).length = cur.size := by unfold spliceV; simp; omega
  have hcell : ∀ o', o' < off + n * s → (w.setRow b (spliceV cur.toList (off + n * s) news).toArray).cell? ⟨b, o', none⟩ = w.cell? ⟨b, o', none⟩ := fun o' ho' => by
    rw [cell_of_row _ _ _ _ _ _ hh, cell_of_row _ _ _ _ _ _ hc1]
    have := splice_get cur.toList (off + n * s) news (by simp; omega) o' (.inl ho')
    simpa [spliceV] using this
  obtain ⟨Pr', hP'⟩ : ∃ Pr' : Prot, ∀ b' o', Pr' b' o' ↔ (Pr b' o' ∨ (b' = b ∧ off + n * s ≤ o' ∧ o' < off + (n + m) * s)) := ⟨fun b' o' => _, fun _ _ => Iff.rfl⟩
  have hK : Kp w Pr (w.setRow b (spliceV cur.toList (off + n * s) news).toArray) Pr' := ⟨fun b' o' h => (hP' b' o').2 (.inl h), fun b' o' hp => by
    by_cases e : b' = b
    · subst e; exact hcell o' (hR.pr o' hp)
    · exact World.cell?_of_block (w := w) (hW.other b' e)⟩
  have I2 := (I.release q).wr_free hW hown.2 (fun x hx e => by
    obtain ⟨h1, h2⟩ := live_release hx hqx
    exact h2 (I.inj x q.key h1 hlive (by rw [e, hqk]))) hK (fun b' o' h hne => ((hP' b' o').1 h).resolve_right (fun h => hne h.1))
  have hrp : Rp (w.setRow b (spliceV cur.toList (off + n * s) news).toArray) Pr' (.sl s (n + m) (old ++ new)) (.slice (some ⟨b, off, none⟩) (n + m) cap) := by
    refine .sl ((RpL.mono hK hro).app (RpL.mono hK hrn)) (fun v hv => ?_) (by simp; omega) hfit (fun j v hj => ?_) (fun i hi => ?_)
    · simp only [List.mem_append] at hv; exact hv.elim (ho1 v) (hn1 v)
    · by_cases hjo : j < olds.length
      · rw [List.getElem?_append_left hjo] at hj
        rw [hcell (off + j) (by omega)]; exact hro2 j v hj
      · rw [List.getElem?_append_right (by omega)] at hj
        have hlt : j - olds.length < news.length := (List.getElem?_eq_some_iff.1 hj).1
        rw [cell_of_row _ _ _ _ _ _ hh]
        simp only [List.getElem?_toArray, spliceV]
        rw [List.append_assoc, List.getElem?_append_right (by simp; omega), List.getElem?_append_left (by simp; omega), ← hj]
        congr 1
        simp only [List.length_take, Array.length_toList]
        omega
    · simp only [List.length_append] at hi
      by_cases hio : i < olds.length
      · exact (hP' _ _).2 (.inl (hpo i hio))
      · exact (hP' _ _).2 (.inr ⟨rfl, by omega, by omega⟩)
  have hroom : Room (w.setRow b (spliceV cur.toList (off + n * s) news).toArray) Pr' b off (n + m) cap s :=
    ⟨hR.hz, hfit, ⟨_, _, hh, by simp [hsz]; exact hc2⟩, fun o' h => by
      rcases (hP' _ _).1 h with h | h
      · have := hR.pr o' h; omega
      · omega⟩
  have hm : MadeOk base (w.setRow b (spliceV cur.toList (off + n * s) news).toArray) Pr' bk { st with gr := st.gr.filter (fun x => x.1 ≠ q), tg := st.tg.map (killT q) } a { v := .pv (.sl s (n + m) (old ++ new)), gr := some s } (.slice (some ⟨b, off, none⟩) (n + m) cap) := by
    refine ⟨fun _ _ => hrp, fun _ _ _ h => by simp at h, fun z hz => ?_, fun q h => by simp at h⟩
    simp only [Option.some.injEq] at hz; subst hz
    refine ⟨b, off, n + m, cap, _, rfl, rfl, hroom, hoff, hown.1, by simpa using hown.2, fun x hx e => ?_⟩
    obtain ⟨h1, h2⟩ := live_release hx hqx
    exact h2 (I.inj x q.key h1 hlive (by rw [e, hqk]))
  obtain ⟨bk', hI, hbk⟩ := I2.made0 hd hm
  intro K Q hKK
  unfold Oper.wp
  rw [he]
  show K (a.put o.dst _) _
  rw [hdst]
  exact hKK _ _ _ _ hI (hW.below hown.1) hK (fun b' o' hb' h => ((hP' b' o').1 h).resolve_right (fun h => by omega)) hW.ko (fun k _ => hbk k) rfl
theorem eok_append (I : Inv base w Pr bk st a N) {o : Oper} {args : Array Operand} {ts : Array TypeId} {st' : St} (ho : o.op = .call { callee := .builtin .append, args := args, argTypes := ts }) (hN : ∀ d, o.dst = some d → d < N) (h : effect P o st = some st') : EOk P base w Pr bk st a N o st' := by
  simp only [effect, ho] at h
  rw [Option.bind_eq_some_iff] at h
  obtain ⟨d, hd, h⟩ := h
  split at h
  · rename_i x y T U ha hts
    split at h
    · rename_i e e' hT hU
      simp only [Option.bind_eq_some_iff] at h
      obtain ⟨s, hs, z, hz, p, hp, ⟨n, old⟩, hv, ⟨m, new⟩, hy, h⟩ := h
      split at h
      · rename_i hc
        obtain ⟨hc1, hc2, hc3, hc4, hc5, hc6⟩ := hc
        simp only at hc1 hc2 hc5 hc6
        obtain ⟨i, hi, his⟩ := sizeT_info hs
        obtain ⟨i', zv, hi', hzv, hzr⟩ := zeroT_rp (w := w) (Pr := Pr) hz
        rw [hi] at hi'; cases hi'
        have hzl : zv.cells.size = s := by
          obtain ⟨hzc, _⟩ := hzr.cells_rp (notTup_ne (zeroT_notTup hz))
          have := hzc.length
          rw [hc4] at this; simpa using this.symm
        obtain ⟨news, hn1, hn2, hsrc⟩ := src_of (P := P) I (Option.bind_eq_some_iff.2 hy) hc5 hU
        have hsrc' : Src P i.size U (a.eval y) m news w := by rw [his]; exact hsrc
        have hbytes : P.bytesOf e = i.bytes := by simp [Program.bytesOf, hi]
        rw [hbytes] at hc1
        unfold room at hc1 hc2
        have hvr := viewS_rp hv (pv_rp I hp)
        -- a new row
        have grow : ∀ (st2 : St) (I2 : Inv base w Pr bk st2 a N) (A : Option Addr) (cap : Nat) (olds : List Value), a.eval x = .slice A n cap → RpL w Pr old olds → One olds →
            (Builtin.firstCells i.size n (.slice A n cap)).run P w.drew = .ok olds.toArray w.drew → cap < n + m → EOk P base w Pr bk st a N o (st2.made (some d) { v := .pv (.sl s (n + m) (old ++ new)), gr := some s }) := by
          intro st2 I2 A cap olds hx hro hro1 hf hgt
          have hrun := run_append_grow_src w T U o.type e i zv hT hi hzv A n cap olds hf (a.eval y) m news hsrc' hgt (by omega) (growslice_fits hgt (by simpa using hc1))
          have hge := grownCap_ge w (n + m) cap e
          refine eok_grown (P := P) (c := grownCap w (n + m) cap e) (tail := Builtin.zeroCells zv.cells (grownCap w (n + m) cap e - (n + m))) (e := e) I2 hd (hN d hd) hc3 (hro.app hn1) (fun v hv => by simp only [List.mem_append] at hv; exact hv.elim (hro1 v) (hn2 v)) (by simp only [List.length_append]; rw [Nat.add_mul]; omega) hge (size_zeroCells' _ _ _ hzl) ?_
          refine exec_append ho ha hts ?_
          rw [hx]; exact hrun
        split at h
        · rename_i v0
          -- nil
          rcases hvr with ⟨rfl, rfl, hx⟩ | ⟨sz, b, o', cap, vs, hpe, _⟩
          · split at h
            · rename_i hm0
              simp only [Option.some.injEq] at h; subst h
              simp only at hm0; subst hm0
              have hnews : news = [] := List.eq_nil_of_length_eq_zero (by rw [← hn1.length]; simpa using hc5)
              subst hnews
              rw [made_put]
              refine eok_value I hd (hN d hd) (v := .slice none 0 0) ?_ (madeOk_pv (by have := pv_rp I hp; rw [hx] at this; exact this))
              refine exec_append ho ha hts ?_
              rw [hx]
              exact run_append_nothing w T U o.type e i hT hi none 0 0 (Nat.le_refl _) (a.eval y) hsrc'
            · rename_i hm0
              simp only [Option.some.injEq] at h; subst h
              simp only at hm0
              have := grow st I none 0 [] hx .nil (fun _ h => by simp at h) (run_firstCells_none _ _ _ _ _) (by omega)
              simpa using this
          · simp at hpe
        · rename_i hnl
          rcases hvr with ⟨rfl, rfl, hx⟩ | ⟨sz, b, off, cap, olds, hpe, hx, hro, hro1, hlo, hncap, hrng, hpr⟩
          · -- no row of one's own is nil
            split at h
            · rename_i t
              simp only [Option.map_eq_some_iff] at h
              obtain ⟨q, hq, h⟩ := h
              exfalso
              have hval : lookP st.gr q = some s ∧ (q = .s t ∨ st.tag t = some q) := by
                split at hq
                · rename_i hg; simp only [Option.some.injEq] at hq; subst hq; exact ⟨hg, .inl rfl⟩
                · split at hq
                  · rename_i q' htag
                    split at hq
                    · rename_i hg; simp only [Option.some.injEq] at hq; subst hq; exact ⟨hg, .inr htag⟩
                    · simp at hq
                  · simp at hq
              obtain ⟨v, hv1, _⟩ := I.slots t (.pv p) (pv_ev hp)
              have hxv : a.eval (.tmp t) = v := eval_tmp hv1
              rw [hx] at hxv
              have hplace : placeVal a w bk q = a.tmps[t]? := by
                rcases hval.2 with rfl | htag
                · rfl
                · simp only [St.tag, Option.bind_eq_some_iff, id] at htag
                  obtain ⟨_, h1, rfl⟩ := htag
                  exact I.tags t q h1 ⟨s, hval.1⟩
              cases q with
              | s u =>
                obtain ⟨_, _, _, _, _, e2, _⟩ := I.grs u s hval.1
                simp only [placeVal] at hplace; rw [e2, hv1, ← hxv] at hplace; simp at hplace
              | c k j =>
                obtain ⟨_, _, _, _, _, _, _, e2, _⟩ := I.grc k j s hval.1
                simp only [placeVal] at hplace; rw [e2, hv1, ← hxv] at hplace; simp at hplace
            · simp at h
          · split at h
            · rename_i t
              simp only [Option.map_eq_some_iff] at h
              obtain ⟨q, hq, rfl⟩ := h
              have hval : lookP st.gr q = some s ∧ (q = .s t ∨ st.tag t = some q) := by
                split at hq
                · rename_i hg; simp only [Option.some.injEq] at hq; subst hq; exact ⟨hg, .inl rfl⟩
                · split at hq
                  · rename_i q' htag
                    split at hq
                    · rename_i hg; simp only [Option.some.injEq] at hq; subst hq; exact ⟨hg, .inr htag⟩
                    · simp at hq
                  · simp at hq
              obtain ⟨v, hv1, _⟩ := I.slots t (.pv p) (pv_ev hp)
              have hxv : a.eval (.tmp t) = v := eval_tmp hv1
              have hplace : placeVal a w bk q = a.tmps[t]? := by
                rcases hval.2 with rfl | htag
                · rfl
                · simp only [St.tag, Option.bind_eq_some_iff, id] at htag
                  obtain ⟨_, h1, rfl⟩ := htag
                  exact I.tags t q h1 ⟨s, hval.1⟩
              rw [hv1, ← hxv, hx] at hplace
              have hgq : grAt st q := ⟨s, hval.1⟩
              obtain ⟨hqk, hR, hoff, hqx⟩ : bk q.key = b ∧ Room w Pr b off n cap s ∧ off = 0 ∧ (∀ t, q = .s t → ¬ exAt st t) := by
                cases q with
                | s u =>
                  obtain ⟨o2, n2, cap2, c2, e1, e2, e3, e0⟩ := I.grs u s hval.1
                  simp only [placeVal] at hplace
                  rw [e2] at hplace
                  simp only [Option.some.injEq, Value.slice.injEq, Addr.mk.injEq] at hplace
                  obtain ⟨⟨h1, rfl, _⟩, rfl, rfl⟩ := hplace
                  refine ⟨h1, by rw [← h1]; exact e3, e0, fun t ht ⟨_, _, _, hx⟩ => ?_⟩
                  cases ht; rw [e1] at hx; simp at hx
                | c k j =>
                  obtain ⟨o2, n2, cap2, c2, bcs, e0, e1, e2, e3, e9⟩ := I.grc k j s hval.1
                  simp only [placeVal] at hplace
                  rw [e2] at hplace
                  simp only [Option.some.injEq, Value.slice.injEq, Addr.mk.injEq] at hplace
                  obtain ⟨⟨h1, rfl, _⟩, rfl, rfl⟩ := hplace
                  exact ⟨h1, by rw [← h1]; exact e3, e9, fun t ht => by simp at ht⟩
              by_cases hfit : n + m ≤ cap
              · refine eok_inplace (P := P) (b := b) (off := off) (cap := cap) I hd (hN d hd) hgq hqk hqx hro hro1 hn1 hn2 hc6 hc5 hrng hpr hR hoff hfit ?_
                refine exec_append ho ha hts ?_
                rw [hx]
                obtain ⟨cur, T', hcur, hcs⟩ := hR.there
                have hmul : (n + m) * s ≤ cap * s := Nat.mul_le_mul_right _ hfit
                have hadd : (n + m) * s = n * s + m * s := Nat.add_mul ..
                have hnl2 : news.length = m * s := by rw [← hn1.length]; exact hc5
                have := run_append_room_src w T U o.type e i hT hi b off n cap (a.eval y) m news hsrc' hfit (fun j hj => by
                    rw [cell_of_row _ _ _ _ _ _ hcur, his]
                    rw [Array.getElem?_eq_getElem (by omega)]; rfl) (fun j hj => frozen_of_row _ _ _ _ _ hcur)
                rw [his] at this
                exact this
              · refine grow _ (I.release q) (some ⟨b, off, none⟩) cap olds hx hro hro1 ?_ (by omega)
                exact run_firstCells_some w.drew i.size n ⟨b, off, none⟩ n cap olds (by rw [his, ← hro.length]; exact hc6) (fun j v hj => by rw [Addr.add_mid]; exact hrng j v hj)
            · simp at h
      · simp at h
    · simp at h
  · simp at h
theorem zerosOf_take {α : Type} (z : List α) : ∀ (n m : Nat), n ≤ m → (zerosOf z m).take (n * z.length) = zerosOf z n
  | 0, m, h => by simp [zerosOf]
  | n + 1, 0, h => by omega
  | n + 1, m + 1, h => by
    simp only [zerosOf, Nat.add_mul, Nat.one_mul]
    rw [List.take_append, List.take_of_length_le (by omega), show n * z.length + z.length - z.length = n * z.length by omega, zerosOf_take z n m (by omega)]
theorem zerosOf_mem {α : Type} {z : List α} : ∀ n v, v ∈ zerosOf z n → v ∈ z
  | 0, v, h => by simp [zerosOf] at h
  | n + 1, v, h => by
    simp only [zerosOf, List.mem_append] at h
    exact h.elim id (zerosOf_mem n v)
theorem eok_makeSlice (I : Inv base w Pr bk st a N) {o : Oper} {t : TypeId} {l c : Operand} {st' : St} (ho : o.op = .makeSlice t l c) (hN : ∀ d, o.dst = some d → d < N) (h : effect P o st = some st') : EOk P base w Pr bk st a N o st' := by
  simp only [effect, ho] at h
  rw [Option.bind_eq_some_iff] at h
  obtain ⟨d, hd, h⟩ := h
  split at h
  · rename_i e n m hu hl hc
    rw [Option.bind_eq_some_iff] at h
    obtain ⟨s, hs, h⟩ := h
    rw [Option.bind_eq_some_iff] at h
    obtain ⟨z, hz, h⟩ := h
    split at h
    · rename_i hcond
      obtain ⟨hn0, hnm, hb, hm, hzl, hs0⟩ := hcond
      obtain ⟨kn, hkn⟩ := int_eq I hl
      obtain ⟨km, hkm⟩ := int_eq I hc
      obtain ⟨i, hi, his⟩ := sizeT_info hs
      obtain ⟨i', zv, hi', hzv, hzr⟩ := zeroT_rp (w := w) (Pr := Pr) hz
      rw [hi] at hi'; cases hi'
      obtain ⟨hzc, hz1⟩ := hzr.cells_rp (notTup_ne (zeroT_notTup hz))
      have hzs : zv.cells.size = s := by have := hzc.length; rw [hzl] at this; simpa using this.symm
      have hbytes : P.bytesOf e = i.bytes := by simp [Program.bytesOf, hi]
      rw [hbytes] at hb
      unfold room at hb hm
      have hwn : IntKind.i64.wrap n = n := IntWalk.i64_in _ (by omega)
      have hwm : IntKind.i64.wrap m = m := IntWalk.i64_in _ (by omega)
      have hbm : (i.bytes : Int) * m ≤ 140737488355328 := by rw [Int.mul_comm]; exact hb
      have hbn : (i.bytes : Int) * n ≤ 140737488355328 := Int.le_trans (Int.mul_le_mul_of_nonneg_left hnm (by omega)) hbm
      have hze : ((Array.range (m.toNat * s)).map (zv.cells[· % zv.cells.size]!)) = (zerosOf zv.cells.toList m.toNat).toArray := by rw [← hzs]; exact zeros_eq _ _
      have hrun : (execOp a.eval o).run P w = .ok (.value (.slice (some ⟨w.heap.size, 0, none⟩) n.toNat m.toNat)) (w.alloc (.cells (zerosOf zv.cells.toList m.toNat).toArray e)) := by
        simp only [execOp, ho, hkn, hkm]
        refine run_v ?_
        have hnr := run_newRow (P := P) e (zerosOf zv.cells.toList m.toNat).toArray w
        have h1 : ¬ (m < 0) := by omega
        have h2 : ¬ (281474976710656 < (i.bytes : Int) * m) := by omega
        have h3 : ¬ (n < 0) := by omega
        have h4 : ¬ (m < n) := by omega
        have hroom : (askRoom (m.toNat * i.bytes)).run P w = .ok () w := by
          unfold askRoom; split <;> rfl
        have hT : (underlying t).run P w = .ok (.slice e) w := run_under hu w
        have hzv' : (zeroValue e).run P w = .ok zv w := by simp [zeroValue, typeInfo, hi, hzv]
        have hcnd : ¬ (decide (m < 0) || decide (↑i.bytes * m > 2 ^ 48) || decide (n < 0) || decide (n > m)) = true := by
          simp only [Bool.or_eq_true, decide_eq_true_eq, not_or]
          refine ⟨⟨⟨h1, ?_⟩, h3⟩, ?_⟩ <;> omega
        unfold Instr.makeSlice
        rw [Sem.run_bind, hT, Result.andThen_ok]
        simp only [Sem.run_bind, asInt, asIntOf, typeInfo, program, Sem.run, hi, hwn, hwm, Sem.run_pure, Result.andThen_ok]
        rw [if_neg hcnd]
        simp only [Sem.run_bind, Sem.run_pure, Result.andThen_ok, hroom, run_sizeT hs]
        by_cases hm0 : m.toNat * s = 0
        · have : m.toNat = 0 := (Nat.mul_eq_zero.1 hm0).resolve_right (by omega)
          simp only [if_pos hm0, Sem.run_bind, Sem.run_pure, Result.andThen_ok]
          rw [this] at hnr ⊢
          simp only [Nat.zero_mul, zerosOf] at hnr ⊢
          have hr0 : (Array.map (fun x => (#[] : Array Value)[x % (#[] : Array Value).size]!) (Array.range 0)) = #[] := by simp
          rw [hr0]
          rw [hnr]; rfl
        · simp only [if_neg hm0, Sem.run_bind, Sem.run_pure, Result.andThen_ok, hzv', hze, hnr]
      have hf := fw_alloc0 I (.cells (zerosOf zv.cells.toList m.toNat).toArray e)
      have hh : (w.alloc (.cells (zerosOf zv.cells.toList m.toNat).toArray e)).heap[w.heap.size]? = some (.cells (zerosOf zv.cells.toList m.toNat).toArray e (0, 0)) := heap_alloc w _
      have hzl2 : (zerosOf zv.cells.toList m.toNat).length = m.toNat * s := by rw [zerosOf_length]; simp [hzs]
      have hroom2 : ∀ k, k ≤ m.toNat → Room (w.alloc (.cells (zerosOf zv.cells.toList m.toNat).toArray e)) Pr w.heap.size 0 k m.toNat s := fun k hk =>
        ⟨hs0, hk, ⟨_, _, hh, by simp [hzl2]⟩, fun o' h => absurd (I.prot _ _ h) (by omega)⟩
      have hfree : ∀ x, live st x → bk x ≠ w.heap.size := fun x hx e => by have := (I.own x hx).2; omega
      have fin : ∀ (mm : Made), MadeOk base (w.alloc (.cells (zerosOf zv.cells.toList m.toNat).toArray e)) Pr bk st a mm (.slice (some ⟨w.heap.size, 0, none⟩) n.toNat m.toNat) → EOk P base w Pr bk st a N o (st.made (some d) mm) := by
        intro mm hm K Q hK
        obtain ⟨bk', hI, hbk⟩ := (I.fw hf).made0 (hN d hd) hm
        unfold Oper.wp
        rw [hrun]
        show K (a.put o.dst _) _
        rw [hd]
        exact hK _ _ _ _ hI (hf.bel.mono I.hb) (hf.kp I.prot) (fun b o hb h => hf.old b o (Nat.lt_of_lt_of_le hb I.hb) h) hf.ko (fun k _ => hbk k) rfl
      split at h
      · rename_i hn00
        simp only [Option.some.injEq] at h; subst h
        subst hn00
        refine fin _ ⟨fun _ _ => ?_, fun _ _ _ h => by simp at h, fun z' hz' => ?_, fun q h => by simp at h⟩
        · exact Rp.sl (vs := []) .nil (by simp) (by simp) (by simp) (fun j v hj => by simp at hj) (fun i hi => by simp at hi)
        · simp only [Option.some.injEq] at hz'; subst hz'
          exact ⟨w.heap.size, 0, 0, m.toNat, [], rfl, rfl, hroom2 0 (by omega), rfl, I.hb, by simp, hfree⟩
      · rename_i hn00
        have hpre : zerosOf zv.cells.toList n.toNat <+: (zerosOf zv.cells.toList m.toNat).toArray.toList := by
          have htk := zerosOf_take zv.cells.toList n.toNat m.toNat (by omega)
          rw [← htk]; simpa using List.take_prefix _ _
        have hzc' := RpL.mono (hf.kp I.prot) (zerosOf_rp hzc n.toNat)
        have hlenn : (zerosOf z.cells n.toNat).length = n.toNat * s := by rw [zerosOf_length, hzl]
        intro K Q hK
        obtain ⟨bk', hI, _, hbk⟩ := (I.fw hf).newBoxA (av0 := .bs d 0 s n.toNat) (v0 := .slice (some ⟨w.heap.size, 0, none⟩) n.toNat m.toNat) (hN d hd) hh hpre I.hb hfree (fun o' h => absurd (I.prot _ _ h) (by omega)) hzc' (fun v hv => hz1 v (zerosOf_mem n.toNat v hv)) rfl (by simp)
          (fun st2 a2 bk2 t h1 h2 => ⟨0, m.toNat, _, _, e, by rw [h2], .inl rfl, h1, by omega, hs0, by omega, by rw [h2]; exact hh, by simp [hzl2]⟩) h
        unfold Oper.wp
        rw [hrun]
        show K (a.put o.dst _) _
        rw [hd]
        exact hK _ _ _ _ hI (hf.bel.mono I.hb) (hf.kp I.prot) (fun b o hb h => hf.old b o (Nat.lt_of_lt_of_le hb I.hb) h) hf.ko (fun k hk => hbk k (fun e => hk (by rw [hd, e]))) rfl
    · simp at h
  · simp at h
end
end Go.Proofs.YtibbgjafjhcemaaDoor.Cul
/-! M15b -/
set_option linter.unusedVariables false
set_option linter.unusedSimpArgs false
namespace Go.Proofs.YtibbgjafjhcemaaDoor.Cul
open Go Go.RowKit
section
variable {P : Program} {base : Nat} {w : World} {Pr : Prot} {bk : Key → Nat} {st : St} {a : Act} {N : Nat}
theorem mark_ko {w w' : World} {base : Nat} {d : Deferred} (h : Mark base w d) (k : KO w w') : Mark base w' d := h.ko k
/-- A callee has written into a box of the frame's own. -/
theorem Inv.turnBox (I : Inv base w Pr bk st a N) {w' : World} {k : Nat} {cs cs' : List PV} {c c' : Array Value} {T : TypeId} {us' : List Value} (hk : look st.bx k = some cs) (hlen : cs'.length = cs.length)
    (hos : w'.os = w.os) (htp : w'.tape = w.tape) (hout : w'.output = w.output) (hsz : w.heap.size ≤ w'.heap.size) (hoth : ∀ j, j < w.heap.size → j ≠ bk (.bx k) → w'.heap[j]? = w.heap[j]?)
    (hb : w.heap[bk (.bx k)]? = some (.cells c T (0, 0))) (hb' : w'.heap[bk (.bx k)]? = some (.cells c' T (0, 0))) (hs : c'.size = c.size) (hpre : us' <+: c'.toList) (hr : RpL w' Pr cs' us') (h1 : One us') :
    Inv base w' Pr bk (st.turnBox k cs') a N ∧ Below base w w' ∧ Kp w Pr w' Pr ∧ KO w w' := by
  have hown := I.own (.bx k) ⟨cs, hk⟩
  have hfree := (I.boxes k cs hk).2
  have hK : Kp w Pr w' Pr := ⟨fun _ _ h => h, fun b o hp => by
    have hne : b ≠ bk (.bx k) := fun e => hfree o (by rw [← e]; exact hp)
    exact World.cell?_of_block (w := w) (hoth b (I.prot b o hp) hne)⟩
  have hko : KO w w' := ⟨⟨hsz, fun j o h ho => by
    have hne : j ≠ bk (.bx k) := fun e => by subst e; rw [hb] at h; cases h; simp [Obj.isCells] at ho
    exact (hoth j (Array.getElem?_eq_some_iff.1 h).1 hne).trans h⟩, fun j c2 T2 fz2 h => by
    by_cases e : j = bk (.bx k)
    · subst e; rw [hb] at h; cases h; exact ⟨c', hb', hs⟩
    · exact ⟨c2, (hoth j (Array.getElem?_eq_some_iff.1 h).1 e).trans h, rfl⟩⟩
  have hne : ∀ x, live st x → x ≠ .bx k → bk x ≠ bk (.bx k) := fun x hx hxk e => hxk (I.inj x (.bx k) hx ⟨cs, hk⟩ e)
  have hlv : ∀ x, live st x → x ≠ .bx k → w'.heap[bk x]? = w.heap[bk x]? := fun x hx hxk => hoth _ (I.own x hx).2 (hne x hx hxk)
  have hbx : ∀ j cs2, look (st.turnBox k cs').bx j = some cs2 → (j = k ∧ cs2 = cs') ∨ (j ≠ k ∧ look st.bx j = some cs2) := by
    intro j cs2 hq
    simp only [St.turnBox, look] at hq
    split at hq
    · rename_i e; simp only [Option.some.injEq] at hq; exact .inl ⟨e.symm, hq.symm⟩
    · rename_i e; rw [look_drop1, if_neg (Ne.symm e)] at hq; exact .inr ⟨Ne.symm e, hq⟩
  have hbx2 : ∀ j cs2, look st.bx j = some cs2 → ∃ cs3, look (st.turnBox k cs').bx j = some cs3 ∧ cs3.length = cs2.length := fun j cs2 e => by
    simp only [St.turnBox, look]
    by_cases hj : k = j
    · subst hj; rw [if_pos rfl]; rw [hk] at e; cases e; exact ⟨_, rfl, hlen⟩
    · rw [if_neg hj, look_drop1, if_neg (Ne.symm hj)]; exact ⟨cs2, e, rfl⟩
  have hgr : ∀ p z, lookP (st.turnBox k cs').gr p = some z → p.notBox k = true ∧ lookP st.gr p = some z := by
    intro p z hp
    simp only [St.turnBox] at hp
    rw [lookP_notBox] at hp
    split at hp
    · exact ⟨‹_›, hp⟩
    · simp at hp
  have hlive : ∀ x, live (st.turnBox k cs') x → live st x := by
    intro x hx
    cases x with
    | bx j =>
      obtain ⟨cs2, hq⟩ := hx
      rcases hbx j cs2 hq with ⟨rfl, _⟩ | ⟨_, hq⟩
      · exact ⟨cs, hk⟩
      · exact ⟨cs2, hq⟩
    | sx t =>
      rcases hx with hx | ⟨z, hz⟩
      · exact .inl hx
      · exact .inr ⟨z, (hgr _ z hz).2⟩
    | cx j o => obtain ⟨z, hz⟩ := hx; exact ⟨z, (hgr _ z hz).2⟩
  have hroom : ∀ x, live st x → x ≠ .bx k → ∀ {o n cap sz}, Room w Pr (bk x) o n cap sz → Room w' Pr (bk x) o n cap sz := fun x hx hxk {o n cap sz} h =>
    ⟨h.hz, h.le, by obtain ⟨c, T, e1, e2⟩ := h.there; exact ⟨c, T, (hlv x hx hxk).trans e1, e2⟩, h.pr⟩
  refine ⟨?_, ⟨hos, htp, hout, hsz, fun j hj => hoth j (Nat.lt_of_lt_of_le hj I.hb) (by omega)⟩, hK, hko⟩
  constructor
  · exact I.size
  · exact ⟨fun d hd => (I.defers.1 d hd).ko hko, I.defers.2⟩
  · exact Nat.le_trans I.hb hsz
  · exact fun b o h => Nat.lt_of_lt_of_le (I.prot b o h) hsz
  · intro t av ht
    obtain ⟨v, hv, hrp⟩ := I.slots t av ht
    refine ⟨v, hv, ?_⟩
    have hbs : ∀ {j off sz n v}, BsRp st w bk j off sz n v → BsRp (st.turnBox k cs') w' bk j off sz n v := fun {j off sz n v} h => h.to rfl (hbx2 j) (fun c T e => hko.sized _ c T _ e)
    cases av with
    | pv p => exact Rp.mono hK hrp
    | bp j off => exact hrp
    | cl f caps => obtain ⟨vs, h1, h2, h3⟩ := hrp; exact ⟨vs, h1, h2, fun i c u hc hu => CapRp.mono hK (h3 i c u hc hu)⟩
    | ex sz n c =>
      obtain ⟨o, cap, vs, h1, h2, h3, h4, h5, h6, h7⟩ := hrp
      have hl : live st (.sx t) := .inl ⟨sz, n, c, ht⟩
      exact ⟨o, cap, vs, h1, RpL.mono hK h2, h3, h4, rangeAt_heap (hlv _ hl (by simp)) h5, hroom _ hl (by simp) h6, h7⟩
    | xr u => exact hrp
    | xe u off => exact hrp
    | newp _ _ => exact hrp
    | dead => trivial
    | bs j off sz n => exact hbs hrp
    | mv f j off sz n => obtain ⟨u, h1, h2⟩ := hrp; exact ⟨u, h1, hbs h2⟩
    | tg j off sz n rest => obtain ⟨u, us, h1, h2, h3⟩ := hrp; exact ⟨u, us, h1, hbs h2, RpL.mono hK h3⟩
  · exact fun x hx => ⟨(I.own x (hlive x hx)).1, Nat.lt_of_lt_of_le (I.own x (hlive x hx)).2 hsz⟩
  · exact fun x y hx hy => I.inj x y (hlive x hx) (hlive y hy)
  · intro j cs2 hq
    rcases hbx j cs2 hq with ⟨rfl, rfl⟩ | ⟨hjk, hq⟩
    · exact ⟨⟨T, c', us', hb', hpre, hr, h1⟩, hfree⟩
    · obtain ⟨⟨T', c2, us2, e1, e0, e2, e3⟩, e4⟩ := I.boxes j cs2 hq
      exact ⟨⟨T', c2, us2, (hlv (.bx j) ⟨cs2, hq⟩ (by simpa using hjk)).trans e1, e0, RpL.mono hK e2, e3⟩, e4⟩
  · intro t z hz
    obtain ⟨_, hz⟩ := hgr _ z hz
    obtain ⟨o, n, cap, c2, e1, e2, e3, e0⟩ := I.grs t z hz
    exact ⟨o, n, cap, c2, e1, e2, hroom (.sx t) (.inr ⟨z, hz⟩) (by simp) e3, e0⟩
  · intro j i z hz
    obtain ⟨hnb, hz⟩ := hgr _ z hz
    have hjk : j ≠ k := by simpa [Pl.notBox] using hnb
    obtain ⟨o, n, cap, c2, bcs, e1, e2, e3, e4, e0⟩ := I.grc j i z hz
    refine ⟨o, n, cap, c2, bcs, ?_, e2, ?_, hroom (.cx j i) ⟨z, hz⟩ (by simp) e4, e0⟩
    · simp only [St.turnBox, look]; rw [if_neg (Ne.symm hjk), look_drop1, if_neg hjk]; exact e1
    · rw [← e3]; exact World.cell?_of_block (w := w) (hlv (.bx j) ⟨bcs, e1⟩ (by simpa using hjk))
  · intro t q ht hq
    simp only [St.turnBox] at ht
    rw [look_map (killBox k) (fun _ x => x.bind fun p => if p.notBox k then some p else none) (fun _ => rfl)] at ht
    cases hm : look st.tg t with
    | none => simp [hm] at ht
    | some p =>
      simp only [hm, Option.map_some, Option.some.injEq, Option.bind_eq_some_iff] at ht
      obtain ⟨p', rfl, ht⟩ := ht
      split at ht
      · rename_i hnb
        simp only [Option.some.injEq] at ht; subst ht
        obtain ⟨z, hz⟩ := hq
        obtain ⟨_, hz⟩ := hgr _ z hz
        rw [← I.tags t _ hm ⟨z, hz⟩]
        cases p' with
        | s u => rfl
        | c j i =>
          obtain ⟨o, n, cap, c2, bcs, e1, _⟩ := I.grc j i z hz
          have hjk : j ≠ k := by simpa [Pl.notBox] using hnb
          simp only [placeVal]
          exact World.cell?_of_block (w := w) (hlv (.bx j) ⟨bcs, e1⟩ (by simpa using hjk))
      · simp at ht
end
end Go.Proofs.YtibbgjafjhcemaaDoor.Cul
/-! M15c -/
set_option linter.unusedVariables false
set_option linter.unusedSimpArgs false
namespace Go.Proofs.YtibbgjafjhcemaaDoor.Cul
open Go Go.RowKit
section
variable {P : Program} {base : Nat} {w : World} {Pr : Prot} {bk : Key → Nat} {st : St} {a : Act} {N : Nat}
inductive AllRp (st : St) (a : Act) (w : World) (Pr : Prot) (bk : Key → Nat) : List AV → List Value → Prop
  | nil : AllRp st a w Pr bk [] []
  | cons {av : AV} {v : Value} {avs : List AV} {vs : List Value} {t : Nat} (h : RpA st a w Pr bk t av v) (hs : AllRp st a w Pr bk avs vs) : AllRp st a w Pr bk (av :: avs) (v :: vs)
theorem evsOf_rp (I : Inv base w Pr bk st a N) : ∀ {l : List Operand} {avs : List AV}, evsOf st l = some avs → AllRp st a w Pr bk avs (l.map a.eval)
  | [], avs, h => by simp [evsOf] at h; subst h; exact .nil
  | x :: l, avs, h => by
    simp only [evsOf, Option.bind_eq_some_iff, Option.map_eq_some_iff] at h
    obtain ⟨v, hv, r, hr, rfl⟩ := h
    obtain ⟨t, h1⟩ := ev_rp I hv
    exact .cons h1 (evsOf_rp I hr)
/-- What a callee and its arguments are in memory. -/
theorem calleeOf_rp (I : Inv base w Pr bk st a N) {o : Oper} {f : Nat} {avs : List AV} (h : calleeOf st o = some (f, avs)) : ∃ us : List Value, execOp a.eval o = callFunc f us.toArray ∧ AllRp st a w Pr bk avs us := by
  unfold calleeOf at h
  split at h
  · rename_i g args ts ho
    split at h
    · rename_i f' hg
      simp only [Option.map_eq_some_iff, Prod.mk.injEq] at h
      obtain ⟨l, hl, rfl, rfl⟩ := h
      have hgv := ev_pv I hg
      generalize hge : a.eval g = gv at hgv
      cases hgv with
      | fn hcs =>
        cases hcs
        exact ⟨_, by simpa using exec_call (cs := []) ho hge, evsOf_rp I hl⟩
    · rename_i f' k off sz n hg
      simp only [Option.map_eq_some_iff, Prod.mk.injEq] at h
      obtain ⟨l, hl, rfl, rfl⟩ := h
      obtain ⟨u, hge, hu⟩ := ev_mv I hg
      refine ⟨u :: args.toList.map a.eval, ?_, .cons (t := 0) hu (evsOf_rp I hl)⟩
      have : #[u] ++ args.map a.eval = (u :: args.toList.map a.eval).toArray := Array.ext' (by simp)
      simp [execOp, ho, resolve, hge, Deferred.ofValue, invoke, this]
    · simp at h
  · simp at h
theorem masOf_pure {b size : Nat} {gcs : List PV} {gsz : Nat} : ∀ {avs : List AV} {ms : List MA} {us : List Value}, avs.any leadsOut = false → masOf st avs = some ms → AllRp st a w Pr bk avs us → MaRp w Pr b size gcs gsz ms us
  | [], ms, us, _, h, k => by simp [masOf] at h; subst h; cases k; exact .nil
  | v :: l, ms, us, hl, h, k => by
    simp only [masOf, Option.bind_eq_some_iff, Option.map_eq_some_iff] at h
    obtain ⟨m, hm, r, hr, rfl⟩ := h
    simp only [List.any_cons, Bool.or_eq_false_iff] at hl
    cases k with
    | cons h1 hs =>
      have ih := masOf_pure (b := b) (size := size) (gcs := gcs) (gsz := gsz) hl.2 hr hs
      cases v with
      | pv p => simp only [maOf, Option.some.injEq] at hm; subst hm; exact .p h1 ih
      | bs k off sz n => simp [leadsOut] at hl
      | _ => simp [maOf] at hm
theorem masOf_guest {k sz : Nat} {cs : List PV} {c : Array Value} {T : TypeId} (hk : look st.bx k = some cs) (hb : w.heap[bk (.bx k)]? = some (.cells c T (0, 0))) : ∀ {avs : List AV} {ms : List MA} {us : List Value}, guestOf avs = some (k, sz) → masOf st avs = some ms → AllRp st a w Pr bk avs us →
    MaRp w Pr (bk (.bx k)) c.size cs sz ms us ∧ guestCells ms = some cs
  | [], ms, us, hg, _, _ => by simp [guestOf] at hg
  | v :: l, ms, us, hg, h, kk => by
    simp only [masOf, Option.bind_eq_some_iff, Option.map_eq_some_iff] at h
    obtain ⟨m, hm, r, hr, rfl⟩ := h
    cases kk with
    | cons h1 hs =>
      cases v with
      | bs j off sz' n =>
        simp only [guestOf] at hg
        split at hg
        · simp at hg
        · rename_i hl
          simp only [Option.some.injEq, Prod.mk.injEq] at hg
          obtain ⟨rfl, rfl⟩ := hg
          simp only [maOf, Option.map_eq_some_iff] at hm
          obtain ⟨cs2, hk2, rfl⟩ := hm
          rw [hk] at hk2; cases hk2
          obtain ⟨o, cap, cs3, c3, T3, e1, e2, e3, e4, e5, e6, e7, e8⟩ := h1
          rw [hk] at e3; cases e3
          rw [hb] at e7; cases e7
          exact ⟨.g ⟨o, cap, e1, e2, e4, e5, e6, e8⟩ (masOf_pure (by simpa using hl) hr hs), rfl⟩
      | pv p =>
        simp only [guestOf] at hg
        split at hg
        · simp at hg
        · simp only [maOf, Option.some.injEq] at hm; subst hm
          obtain ⟨i1, i2⟩ := masOf_guest hk hb hg hr hs
          exact ⟨.p h1 i1, i2⟩
      | _ => simp [maOf] at hm
theorem guestOf_mem {k sz : Nat} : ∀ {avs : List AV}, guestOf avs = some (k, sz) → ∃ off n, AV.bs k off sz n ∈ avs
  | [], h => by simp [guestOf] at h
  | v :: l, h => by
    cases v with
    | bs j off sz' n =>
      simp only [guestOf] at h
      split at h
      · simp at h
      · simp only [Option.some.injEq, Prod.mk.injEq] at h
        obtain ⟨rfl, rfl⟩ := h
        exact ⟨off, n, by simp⟩
    | _ =>
      simp only [guestOf] at h
      split at h
      · simp at h
      · obtain ⟨off, n, hm⟩ := guestOf_mem h
        exact ⟨off, n, List.mem_cons_of_mem _ hm⟩
theorem allRp_mem : ∀ {avs : List AV} {us : List Value}, AllRp st a w Pr bk avs us → ∀ av ∈ avs, ∃ t v, RpA st a w Pr bk t av v
  | _, _, .nil, av, h => by simp at h
  | _, _, .cons h1 hs, av, h => by
    rcases List.mem_cons.1 h with rfl | h
    · exact ⟨_, _, h1⟩
    · exact allRp_mem hs av h
/-- A callee that writes into an array of the frame's own. -/
theorem eok_mut {call : Cl} (hC : CallOk P call) (I : Inv base w Pr bk st a N) {o : Oper} {f : Nat} {avs : List AV} {st' : St} (hN : ∀ d, o.dst = some d → d < N) (hc : calleeOf st o = some (f, avs)) (h : mutCall call o st f avs = some st') : EOk P base w Pr bk st a N o st' := by
  simp only [mutCall, Option.bind_eq_some_iff] at h
  obtain ⟨⟨k, sz⟩, hg, ms, hms, ⟨r, cs'⟩, hr, h⟩ := h
  split at h
  · rename_i hok
    simp only [Option.some.injEq] at h
    obtain ⟨us, he, hrp⟩ := calleeOf_rp I hc
    obtain ⟨off, n, hmem⟩ := guestOf_mem hg
    obtain ⟨t0, v0, hbs⟩ := allRp_mem hrp _ hmem
    obtain ⟨_, _, cs, c0, T0, _, _, hk, _, _, _, hb0, _⟩ := hbs
    obtain ⟨⟨T, c, vs, hb, hpre, hrl, hone⟩, hfree⟩ := I.boxes k cs hk
    obtain ⟨hma, hgc⟩ := masOf_guest hk hb hg hms hrp
    obtain ⟨hbody, hcall⟩ := hC.mu f ms r cs' hr
    intro K Q hK
    refine wp_enter he hbody (hcall cs sz us w Pr (bk (.bx k)) T c hgc I.prot ⟨hb, ⟨vs, hpre, hrl, hone⟩, hfree⟩ hma) ?_
    rintro e w' ⟨v, rfl, hm⟩
    refine ⟨v, rfl, ?_⟩
    obtain ⟨c', hguest, hcs⟩ := hm.guest
    obtain ⟨us', hp', hr', ho'⟩ := hguest.pre
    obtain ⟨I2, hbel, hkp, hko⟩ := I.turnBox hk hm.len hm.os hm.tape hm.output hm.size hm.other hb hguest.blk hcs hp' hr' ho'
    have hkt : look (st.turnBox k cs').bx k = some cs' := by simp [St.turnBox, look]
    have hgs : ∀ {off n u}, GSl (bk (.bx k)) c.size cs' off sz n u → BsRp (st.turnBox k cs') w' bk k off sz n u := fun {off n u} h => by
      obtain ⟨o', cap, e1, e2, e3, e4, e5, e6⟩ := h
      exact ⟨o', cap, cs', c', T, e1, e2, hkt, e3, e4, e5, hguest.blk, by omega⟩
    have hav : ∀ t, RpA (st.turnBox k cs') a w' Pr bk t (resA k sz r) v := fun t => by
      have := hm.res
      cases r with
      | pv p => exact this
      | gs off n => exact hgs this
      | gt off n rest => obtain ⟨u, us, e1, e2, e3⟩ := this; exact ⟨u, us, e1, hgs e2, e3⟩
    have hne : ∀ sz' n cs, resA k sz r ≠ .ex sz' n cs := by intro _ _ _; cases r <;> simp [resA]
    cases hd : o.dst with
    | none =>
      rw [hd] at h
      rw [← h] at hK
      exact hK a w' Pr bk I2 hbel hkp (fun _ _ _ h => h) hko (fun _ _ => rfl) rfl
    | some d =>
      rw [hd] at h
      rw [made_put] at h
      have hmo : MadeOk base w' Pr bk (st.turnBox k cs') a { v := resA k sz r } v := ⟨fun _ => hav, fun _ _ _ h => absurd h (hne _ _ _), fun z h => by simp at h, fun q h => by simp at h⟩
      obtain ⟨bk', hI, hbk⟩ := I2.made0 (hN d hd) hmo
      rw [← h] at hK
      exact hK _ w' Pr bk' hI hbel hkp (fun _ _ _ h => h) hko (fun j _ => hbk j) rfl
  · simp at h
theorem litP'_eq : ∀ {cs : List PV} {vs : List Value} {w : World} {Pr : Prot}, cs.all litP' = true → RpL w Pr cs vs → ∀ {w2 : World} {Pr2 : Prot}, RpL w2 Pr2 cs vs
  | _, _, _, _, _, .nil, _, _ => .nil
  | _, _, _, _, h, .cons h1 hs, _, _ => by
    simp only [List.all_cons, Bool.and_eq_true] at h
    refine .cons ?_ (litP'_eq h.2 hs)
    cases h1 with
    | lit hsc => exact .lit hsc
    | _ => simp [litP'] at h
theorem pre_of_range {b : Nat} {c : Array Value} {T : TypeId} {vs : List Value} (h : w.heap[b]? = some (.cells c T (0, 0))) (hr : w.rangeAt b 0 vs) : vs <+: c.toList := by
  refine ⟨c.toList.drop vs.length, ?_⟩
  have key : c.toList.take vs.length = vs := by
    apply List.ext_getElem?
    intro i
    by_cases hi : i < vs.length
    · rw [List.getElem?_take_of_lt hi, Array.getElem?_toList]
      have := hr i _ (List.getElem?_eq_getElem hi)
      rw [cell_of_row _ _ _ _ _ _ h, Nat.zero_add] at this
      rw [this, List.getElem?_eq_getElem hi]
    · rw [List.getElem?_take, if_neg hi, List.getElem?_eq_none (by omega)]
  calc vs ++ c.toList.drop vs.length = c.toList.take vs.length ++ c.toList.drop vs.length := by rw [key]
    _ = c.toList := List.take_append_drop ..
/-- A call whose answer becomes an array of the frame's own. -/
theorem eok_ex {call : Cl} (hC : CallOk P call) (I : Inv base w Pr bk st a N) {o : Oper} {st' : St} (hN : ∀ d, o.dst = some d → d < N) (h : exCall call o st = some st') : EOk P base w Pr bk st a N o st' := by
  unfold exCall at h
  split at h
  · rename_i g args ts ho
    split at h
    · rename_i f caps hg
      split at h
      · simp at h
      · rename_i hout
        simp only [Option.bind_eq_some_iff] at h
        obtain ⟨as_, has, r, hr, d, hd, h⟩ := h
        split at h
        · rename_i sz n cs z hv hz
          split at h
          · rename_i hcond
            obtain ⟨rfl, hlit⟩ := hcond
            obtain ⟨hbody, hcall⟩ := hC.fn f _ r hr
            have hgv := ev_pv I hg
            generalize hge : a.eval g = gv at hgv
            cases hgv with
            | fn hcs =>
              have hargs := (argsOf_rp0 I (by simpa using hout) has).app hcs
              intro K Q hK
              refine wp_enter (exec_call ho hge) hbody (hcall _ w Pr I.prot hargs) ?_
              rintro e w' ⟨v, Pr', rfl, hret⟩
              refine ⟨v, rfl, ?_⟩
              obtain ⟨b, o', n', cap, cs2, e1, e2, hroom, e3, e4, e5⟩ := hret.gr z hz
              rw [hv] at e1
              simp only [PV.sl.injEq, true_and] at e1
              obtain ⟨rfl, rfl⟩ := e1
              subst e3
              obtain ⟨PrN, hPN⟩ : ∃ PrN : Prot, ∀ b' o, PrN b' o ↔ (Pr' b' o ∧ b' ≠ b) := ⟨fun b' o => _, fun _ _ => Iff.rfl⟩
              have hf : Fw w Pr w' PrN := ⟨hret.fw.bel, fun b' o h => (hPN b' o).2 ⟨hret.fw.pr b' o h, fun e => by have := I.prot b' o h; omega⟩, fun b' o hlt h => hret.fw.old b' o hlt ((hPN b' o).1 h).1, fun b' o h => hret.fw.new b' o ((hPN b' o).1 h).1⟩
              obtain ⟨c, T, hb, hsz⟩ := hroom.there
              obtain ⟨vs, hrl, hone, hpre, hlen⟩ : ∃ vs, RpL w' PrN cs vs ∧ One vs ∧ vs <+: c.toList ∧ cs.length = n * z := by
                have hrp := hret.rp
                rw [hv, e2] at hrp
                cases hrp with
                | sl hr1 h1 hl hn hc hp => exact ⟨_, litP'_eq hlit hr1, h1, pre_of_range hb hc, hl⟩
              obtain ⟨bk', hI, _, hbk⟩ := (I.fw hf).newBoxA (av0 := .bs d 0 z n) (v0 := v) (hN d hd) hb hpre (Nat.le_trans I.hb e4) (fun x hx e => by have := (I.own x hx).2; omega) (fun o h => ((hPN b o).1 h).2 rfl) hrl hone rfl (by simp)
                (fun st2 a2 bk2 t h1 h2 => ⟨0, cap, _, c, T, by rw [h2]; exact e2, .inl rfl, h1, by omega, hroom.hz, hroom.le, by rw [h2]; exact hb, hsz⟩) h
              rw [hd]
              exact hK _ w' PrN bk' hI (hf.bel.mono I.hb) (hf.kp I.prot) (fun b o hb h => hf.old b o (Nat.lt_of_lt_of_le hb I.hb) h) hf.ko (fun k hk => hbk k (fun e => hk (by rw [hd, e]))) rfl
          · simp at h
        · simp at h
    · simp at h
  · simp at h
end
end Go.Proofs.YtibbgjafjhcemaaDoor.Cul
/-! M16 -/
set_option linter.unusedVariables false
set_option linter.unusedSimpArgs false
namespace Go.Proofs.YtibbgjafjhcemaaDoor.Cul
open Go Go.RowKit
/-- What stays put: own variables' blocks; the deferred calls. -/
structure Pins where
  k : Nat → Option Nat
  ds : Option (List Deferred)
section
variable {P : Program} {base : Nat} {w : World} {Pr : Prot} {bk : Key → Nat} {st : St} {a : Act} {N : Nat} {pin : Pins}
theorem effect_ok (I : Inv base w Pr bk st a N) {o : Oper} {st' : St} (hN : ∀ d, o.dst = some d → d < N) (h : effect P o st = some st') : EOk P base w Pr bk st a N o st' := by
  cases ho : o.op with
  | assign x => exact eok_assign I ho hN h
  | alloc t => exact eok_alloc I ho hN h
  | box t x => exact eok_box I ho hN h
  | store t x y => exact eok_store I ho h
  | makeSlice t l c => exact eok_makeSlice I ho hN h
  | call c =>
    obtain ⟨callee, args, ts⟩ := c
    cases callee with
    | value g => simp [effect, ho] at h
    | builtin b =>
      cases b with
      | append => exact eok_append I ho hN h
      | _ => simp [effect, ho] at h
    | invoke r n => simp [effect, ho] at h
  | _ => simp [effect, ho] at h
theorem put_none (a : Act) (v : Value) : a.put none v = a := rfl
theorem eok_quiet (I : Inv base w Pr bk st a N) {o : Oper} {m : Made} (hN : ∀ d, o.dst = some d → d < N) (h : QOk P base w Pr bk st a o m) : EOk P base w Pr bk st a N o (st.made o.dst m) := by
  intro K Q hK
  refine h K Q fun v w' Pr' hf hm => ?_
  have I2 := I.fw hf
  cases hd : o.dst with
  | none => exact hK a w' Pr' bk (by rw [hd]; exact I2) (hf.bel.mono I.hb) (hf.kp I.prot) (fun b o hb h => hf.old b o (Nat.lt_of_lt_of_le hb I.hb) h) hf.ko (fun _ _ => rfl) rfl
  | some d =>
    obtain ⟨bk', hI, hbk⟩ := I2.made0 (hN d hd) hm
    exact hK _ w' Pr' bk' (by rw [hd]; exact hI) (hf.bel.mono I.hb) (hf.kp I.prot) (fun b o hb h => hf.old b o (Nat.lt_of_lt_of_le hb I.hb) h) hf.ko (fun k _ => hbk k) rfl
theorem aop_ok {call : Cl} (hC : CallOk P call) (I : Inv base w Pr bk st a N) {o : Oper} {st' : St} (hN : ∀ d, o.dst = some d → d < N) (h : aop P call o st = some st') : EOk P base w Pr bk st a N o st' := by
  have plain : (if isQuiet o.op = true then (quiet P call o st).map (st.made o.dst) else effect P o st) = some st' → EOk P base w Pr bk st a N o st' := fun h => by
    split at h
    · simp only [Option.map_eq_some_iff] at h
      obtain ⟨m, hm, rfl⟩ := h
      exact eok_quiet I hN (quiet_ok hC I hm)
    · exact effect_ok I hN h
  unfold aop at h
  split at h
  · rename_i f vs hc
    split at h
    · exact eok_mut hC I hN hc h
    · split at h
      · exact eok_ex hC I hN h
      · exact plain h
  · exact plain h

/-! ### In a round of a loop over a function as_ elsewhere -/
/-- A fence that lets every call by. -/
structure Easy (F : Fence) : Prop where
  fn : ∀ f, F.fn f
  depth : F.depth = none
  calls : ∀ (n : Nat) (P : Program) (f : FuncId) (args : Array Value) (w : World) (R : Ending → World → Prop), Calls P f args w R → CallsIn F n P f args w R
  rows : ∀ (n : Nat) (P : Program) (row : String) (args : Array Value) (w : World) (R : Value → World → Prop), Rows P row args w R → RowsIn F n P row args w R
theorem rowsIn_of_rows {n : Nat} {row : String} {args : Array Value} {R : Value → World → Prop} (h : Rows P row args w R) : RowsIn Fence.wide n P row args w R :=
  fun c cs _ => let ⟨v, w', r, s⟩ := h c cs; ⟨v, w', r, stepsIn_wide.2 s⟩
theorem easy_wide : Easy Fence.wide := ⟨fun _ => trivial, rfl, fun _ _ _ _ _ _ h => callsIn_wide.2 h, fun _ _ _ _ _ _ h => rowsIn_of_rows h⟩
theorem easy_round (l : Nat) : Easy (Fence.wide.inRound l) := ⟨fun _ => trivial, rfl, fun _ _ _ _ _ _ h => CallsIn.inRound l (callsIn_wide.2 h), fun _ _ _ _ _ _ h => rowsIn_of_rows h⟩
theorem oper_in {F : Fence} (E : Easy F) {n : Nat} {o : Oper} (hnd : ∀ c, o.op ≠ .defer c) {K : Act → World → Prop} {Q : Exit → Act → World → Prop} (h : o.wp P a w K Q) : o.wpIn F n P a w K Q := by
  refine ⟨fun f _ => E.fn f, ?_⟩
  rw [Oper.semAt_plain F _ _ hnd]
  unfold Oper.wp at h
  generalize (execOp a.eval o).run P w = r at h
  have hd : F.depth.isSome = true → 1 ≤ n := fun h => by rw [E.depth] at h; simp at h
  cases r with
  | ok x w' =>
    cases x with
    | value v => exact h
    | skip => exact h
    | defer d => exact h
    | enter f args => exact ⟨hd, E.calls _ _ _ _ _ _ h⟩
    | row r args => exact ⟨hd, E.rows _ _ _ _ _ _ h⟩
    | _ => exact h.elim
  | halt x w' => cases x <;> first | exact h | exact h.elim
theorem aop_notDefer {call : Cl} {o : Oper} {s : St} (h : aop P call o st = some s) : ∀ c, o.op ≠ .defer c := by
  intro c ho
  simp [aop, calleeOf, ho, isQuiet, effect] at h
/-- The frame in some memory behind the entry's. -/
def Good (base : Nat) (w0 : World) (Pr0 : Prot) (N : Nat) (pin : Pins) (st : St) (a : Act) (w : World) : Prop :=
  ∃ Pr bk, Inv base w Pr bk st a N ∧ Below base w0 w ∧ (∀ b o, b < base → Pr b o → Pr0 b o) ∧ KO w0 w ∧ (∀ k b, pin.k k = some b → bk (.bx k) = b) ∧ (∀ b o v, Pr0 b o → w0.cell? ⟨b, o, none⟩ = some v → Pr b o ∧ w.cell? ⟨b, o, none⟩ = some v) ∧ ∀ ds, pin.ds = some ds → a.defers = ds
theorem Good.step {w0 : World} {Pr0 : Prot} {st' : St} (hG : Below base w0 w ∧ (∀ b o, b < base → Pr b o → Pr0 b o) ∧ KO w0 w ∧ (∀ k b, pin.k k = some b → bk (.bx k) = b) ∧ (∀ b o v, Pr0 b o → w0.cell? ⟨b, o, none⟩ = some v → Pr b o ∧ w.cell? ⟨b, o, none⟩ = some v) ∧ ∀ ds, pin.ds = some ds → a.defers = ds) {o : Oper} (hpn : ∀ d, o.dst = some d → pin.k d = none) (h : EOk P base w Pr bk st a N o st') {Q : Exit → Act → World → Prop} {K : Act → World → Prop}
    (hK : ∀ a' w', Good base w0 Pr0 N pin st' a' w' → K a' w') : o.wp P a w K Q :=
  h K Q fun a' w' Pr' bk' hI hb hk hp ho hbk hdf => hK a' w' ⟨Pr', bk', hI, hG.1.trans hb, fun b o hlt h => hG.2.1 b o hlt (hp b o hlt h), hG.2.2.1.trans ho, ⟨fun k b e => (hbk k (fun e2 => by rw [hpn k e2] at e; simp at e)).trans (hG.2.2.2.1 k b e), fun b o v h1 h2 => by
    obtain ⟨h3, h4⟩ := hG.2.2.2.2.1 b o v h1 h2
    exact ⟨hk.pr b o h3, (hk.cell b o h3).trans h4⟩, fun ds e => hdf.trans (hG.2.2.2.2.2 ds e)⟩⟩
theorem Good.less {w0 : World} {Pr0 : Prot} {st' : St} (h : Good base w0 Pr0 N pin st a w) (k : ∀ Pr bk, Inv base w Pr bk st a N → Inv base w Pr bk st' a N) : Good base w0 Pr0 N pin st' a w := by
  obtain ⟨Pr, bk, I, h1⟩ := h
  exact ⟨Pr, bk, k Pr bk I, h1⟩
theorem wanted_eq (I : Inv base w Pr bk st a N) {ops : Array Oper} {o : Oper} {b : Bool} (h : aWanted ops.toList o st = some b) : Region.wanted o (yielded ops a.tmps) = b := by
  unfold aWanted at h
  unfold Region.wanted
  cases hg : o.guard with
  | none => rw [hg] at h; simpa using h
  | some g =>
    obtain ⟨j, want⟩ := g
    simp only [hg, Option.bind_eq_some_iff] at h
    obtain ⟨t, ⟨oj, hj, hd⟩, h⟩ := h
    have hj' : ops[j]? = some oj := by simpa using hj
    simp only [yielded, hj', Option.bind_some, hd]
    split at h
    · rename_i c hl
      obtain ⟨v, hv, hr⟩ := I.slots t _ hl
      cases hr
      simp only [hv]
      simp only [Option.some.injEq] at h
      subst h
      cases c <;> cases want <;> rfl
    · rename_i hl
      obtain ⟨v, hv, hr⟩ := I.slots t _ hl
      cases hr with
      | tup hr =>
        simp only [hv]
        simp only [Option.some.injEq] at h
        subst h; rfl
    · simp at h
theorem skip_ok (I : Inv base w Pr bk st a N) {o : Oper} (hN : ∀ d, o.dst = some d → d < N) : ∃ bk', Inv base w Pr bk' (st.put o.dst undefA) (a.put o.dst undef) N ∧ ∀ k, bk' (.bx k) = bk (.bx k) := by
  cases hd : o.dst with
  | none => exact ⟨bk, I, fun _ => rfl⟩
  | some d =>
    rw [made_put]
    exact I.made0 (hN d hd) (madeOk_pv (Rp.tup .nil))
theorem aops_ok {F : Fence} (E : Easy F) (n : Nat) {call : Cl} (hC : CallOk P call) {w0 : World} {Pr0 : Prot} {ops : Array Oper} {Q : Exit → Act → World → Prop} {st' : St} (hQ : ∀ a' w', Good base w0 Pr0 N pin st' a' w' → Q .normal a' w') :
    ∀ (l : List Oper) (st : St) (a : Act) (w : World), (∀ o ∈ l, ∀ d, o.dst = some d → d < N ∧ pin.k d = none) → Good base w0 Pr0 N pin st a w → aops (aop P call) ops.toList l st = some st' → wpListIn F n P ops Q l a w
  | [], st, a, w, hN, hG, h => by
    simp only [aops, Option.some.injEq] at h; subst h
    exact hQ a w hG
  | o :: l, st, a, w, hN, hG, h => by
    obtain ⟨Pr, bk, I, hG2⟩ := hG
    simp only [aops, Option.bind_eq_some_iff] at h
    obtain ⟨b, hb, h⟩ := h
    have hw := wanted_eq (ops := ops) I hb
    refine wpListIn_step fun K hK => ?_
    cases b with
    | true =>
      simp only [Option.bind_eq_some_iff] at h
      obtain ⟨s1, hs1, h⟩ := h
      rw [if_pos hw]
      exact oper_in E (aop_notDefer hs1) (Good.step hG2 (fun d hd => (hN o (by simp) d hd).2) (aop_ok hC I (fun d hd => (hN o (by simp) d hd).1) hs1) fun a' w' hG' => hK a' w' (aops_ok E n hC hQ l s1 a' w' (fun o' ho' => hN o' (List.mem_cons_of_mem _ ho')) hG' h))
    | false =>
      simp only at h
      rw [if_neg (by rw [hw]; simp)]
      obtain ⟨bk', I', hbk⟩ := skip_ok I (fun d hd => (hN o (by simp) d hd).1)
      exact ⟨fun f _ => E.fn f, hK _ _ (aops_ok E n hC hQ l _ _ _ (fun o' ho' => hN o' (List.mem_cons_of_mem _ ho')) ⟨Pr, bk', I', hG2.1, hG2.2.1, hG2.2.2.1, fun k b e => (hbk k).trans (hG2.2.2.2.1 k b e), hG2.2.2.2.2.1, fun ds e => by
        have := hG2.2.2.2.2.2 ds e
        rw [← this]; cases o.dst <;> rfl⟩ h)⟩
end
end Go.Proofs.YtibbgjafjhcemaaDoor.Cul
/-! M17 -/
set_option linter.unusedVariables false
set_option linter.unusedSimpArgs false
namespace Go.Proofs.YtibbgjafjhcemaaDoor.Cul
open Go Go.RowKit
section
variable {P : Program} {base : Nat} {w : World} {Pr : Prot} {bk : Key → Nat} {st : St} {a : Act} {N : Nat} {pin : Pins}
/-- The frame without the array that slot t owned. -/
theorem Inv.dropEx (I : Inv base w Pr bk st a N) {t sz n : Nat} {cs : List PV} (heq : look st.sl t = some (.ex sz n cs)) :
    Inv base w Pr bk { st with sl := (drop1 st.sl t).map (killA t) } a N ∧ ∀ x, live { st with sl := (drop1 st.sl t).map (killA t) } x → bk x ≠ bk (.sx t) := by
  have hlk : ∀ u, look (drop1 st.sl t) u = if u = t then none else look st.sl u := look_drop1 st.sl t
  have hgr0 : lookP st.gr (.s t) = none := by
    cases e : lookP st.gr (.s t) with
    | none => rfl
    | some z => obtain ⟨o', n', cap', cs', h1, _⟩ := I.grs t z e; rw [heq] at h1; simp at h1
  constructor
  · refine I.less (fun u av h => ?_) (fun k cs h => h) (fun q z h => ⟨h, ?_⟩) (fun t q h => h) (fun u x h hx => ?_) (fun _ _ _ _ _ _ e => e)
    · simp only at h
      rw [look_map (killA t) (fun _ av => if refersTo t av then .dead else av) (fun _ => rfl), hlk] at h
      by_cases e : u = t
      · simp [e] at h
      · rw [if_neg e] at h
        cases hq : look st.sl u with
        | none => simp [hq] at h
        | some y =>
          simp only [hq, Option.map_some, Option.some.injEq] at h
          split at h
          · obtain ⟨v, hv, _⟩ := I.slots u y hq; exact .inr ⟨h.symm, v, hv⟩
          · exact .inl (by rw [h])
    · cases q with
      | s u =>
        simp only
        rw [look_map (killA t) (fun _ av => if refersTo t av then .dead else av) (fun _ => rfl), hlk]
        have e : u ≠ t := fun e => by subst e; rw [hgr0] at h; simp at h
        rw [if_neg e]
        obtain ⟨o', n', cap', cs', h1, _⟩ := I.grs u z h
        rw [h1]; rfl
      | c k o => rfl
    · simp only at h
      obtain ⟨sz', n', cs', hx⟩ := hx
      have hxt : x ≠ t := by
        intro e; subst e
        rcases h with h | ⟨off, h⟩ <;>
        · rw [look_map (killA x) (fun _ av => if refersTo x av then .dead else av) (fun _ => rfl)] at h
          cases hq : look (drop1 st.sl x) u with
          | none => simp [hq] at h
          | some y => simp only [hq, Option.map_some, Option.some.injEq] at h; split at h <;> simp_all [refersTo]
      refine ⟨sz', n', cs', ?_⟩
      simp only
      rw [look_map (killA t) (fun _ av => if refersTo t av then .dead else av) (fun _ => rfl), hlk, if_neg hxt, hx]; rfl
  · intro x hx e
    have hlx : live st x ∧ x ≠ .sx t := by
      cases x with
      | bx k => exact ⟨hx, by simp⟩
      | cx k o => exact ⟨hx, by simp⟩
      | sx u =>
        have hut : u ≠ t := by
          intro e2; subst e2
          rcases hx with ⟨_, _, _, hx⟩ | ⟨z, hx⟩
          · simp only at hx
            rw [look_map (killA u) (fun _ av => if refersTo u av then .dead else av) (fun _ => rfl), hlk, if_pos rfl] at hx; simp at hx
          · simp only at hx; rw [hgr0] at hx; simp at hx
        refine ⟨?_, by simpa using hut⟩
        rcases hx with ⟨sz', n', cs', hx⟩ | hx
        · simp only at hx
          rw [look_map (killA t) (fun _ av => if refersTo t av then .dead else av) (fun _ => rfl), hlk, if_neg hut] at hx
          cases hq : look st.sl u with
          | none => simp [hq] at hx
          | some y => simp only [hq, Option.map_some, Option.some.injEq] at hx; split at hx <;> simp_all [live, exAt]
        · exact .inr hx
    exact hlx.2 (I.inj x (.sx t) hlx.1 (.inl ⟨sz, n, cs, heq⟩) e)
theorem put_same {a : Act} {t : Nat} {v : Value} (h : a.tmps[t]? = some v) : a.put (some t) v = a := by
  have : a.tmps.setIfInBounds t v = a.tmps := by
    apply Array.ext_getElem?
    intro i
    by_cases e : t = i
    · subst e
      have hlt : t < a.tmps.size := (Array.getElem?_eq_some_iff.1 h).1
      rw [Array.getElem?_setIfInBounds_self_of_lt hlt, h]
    · rw [Array.getElem?_setIfInBounds_ne e]
  simp [Act.put, this]
theorem wr_refl (w : World) (g : Nat) (h : ∃ c T fz, w.heap[g]? = some (.cells c T fz)) : Wr w w g := ⟨rfl, rfl, rfl, rfl, fun _ _ => rfl, h, fun c T fz e => ⟨c, e, rfl⟩⟩
theorem lookP_ne' (gr : List (Pl × Nat)) (p q : Pl) : lookP (gr.filter (fun x => x.1 ≠ p)) q = if q = p then none else lookP gr q := by
  have := lookP_filter (fun x => decide (x ≠ p)) gr q
  simp only [ne_eq, decide_not, Bool.not_eq_eq_eq_not, Bool.not_true, decide_eq_false_iff_not, ite_not] at this ⊢
  exact this
theorem look_dropBox (st : St) (t k u : Nat) : look (st.dropBox t k).sl u = if u = t then none else (look st.sl u).map fun av => if noPtr k av then av else .dead := by
  simp only [St.dropBox]
  rw [look_map (killK k) (fun _ av => if noPtr k av then av else .dead) (fun _ => rfl), look_drop1]
  split <;> rfl
theorem Inv.dropBox (I : Inv base w Pr bk st a N) {t k off sz n : Nat} (heq : look st.sl t = some (.bs k off sz n)) : Inv base w Pr bk (st.dropBox t k) a N := by
  refine I.less (fun u av h => ?_) (fun j cs h => ?_) (fun p z h => ?_) (fun u q h => ?_) (fun u x h hx => ?_) (fun u av j h hj cs e => ?_)
  · rw [look_dropBox] at h
    split at h
    · simp at h
    · cases hq : look st.sl u with
      | none => simp [hq] at h
      | some y =>
        simp only [hq, Option.map_some, Option.some.injEq] at h
        split at h
        · exact .inl (by rw [h])
        · obtain ⟨v, hv, _⟩ := I.slots u y hq; exact .inr ⟨h.symm, v, hv⟩
  · simp only [St.dropBox] at h
    rw [look_drop1] at h
    split at h
    · simp at h
    · exact h
  · have h0 := h
    simp only [St.dropBox] at h
    rw [lookP_ne', lookP_notBox] at h
    split at h
    · simp at h
    · rename_i hpt
      split at h
      · rename_i hnb
        refine ⟨h, ?_⟩
        cases p with
        | s u =>
          have hut : u ≠ t := fun e => hpt (by rw [e])
          obtain ⟨o, m, cap, cs, e1, _⟩ := I.grs u z h
          show look (st.dropBox t k).sl u = look st.sl u
          rw [look_dropBox, if_neg hut, e1]; rfl
        | c j o =>
          have hjk : j ≠ k := by simpa [Pl.notBox] using hnb
          show look (drop1 st.bx k) j = look st.bx j
          rw [look_drop1, if_neg hjk]
      · simp at h
  · simp only [St.dropBox] at h
    rw [look_map (killBox k) (fun _ x => x.bind fun p => if p.notBox k then some p else none) (fun _ => rfl), look_drop1] at h
    split at h
    · simp at h
    · cases hm : look st.tg u with
      | none => simp [hm] at h
      | some p =>
        simp only [hm, Option.map_some, Option.some.injEq, Option.bind_eq_some_iff] at h
        obtain ⟨p', rfl, h⟩ := h
        split at h
        · simp only [Option.some.injEq] at h; rw [h]
        · simp at h
  · obtain ⟨sz', n', cs', e⟩ := hx
    have hxt : x ≠ t := fun e2 => by subst e2; rw [heq] at e; simp at e
    exact ⟨sz', n', cs', by rw [look_dropBox, if_neg hxt, e]; rfl⟩
  · have hjk : j ≠ k := by
      rw [look_dropBox] at h
      split at h
      · simp at h
      · cases hq : look st.sl u with
        | none => simp [hq] at h
        | some y =>
          simp only [hq, Option.map_some, Option.some.injEq] at h
          split at h
          · rename_i hnp
            subst h
            cases y <;> simp_all [refK, noPtr]
          · subst h; simp [refK] at hj
    show look (drop1 st.bx k) j = some cs
    rw [look_drop1, if_neg hjk]; exact e
/-- A slice of a box of the frame's own is from here on only read; the box is gone. -/
theorem Inv.freeze (g : Bool) (I : Inv base w Pr bk st a N) {t k off sz n : Nat} {cs : List PV} (heq : look st.sl t = some (.bs k off sz n)) (hk : look st.bx k = some cs) :
    ∃ Pr' bk', Inv base w Pr' bk' ((st.dropBox t k).made (some t) { v := .pv (.sl sz n ((cs.drop off).take (n * sz))), gr := grIf g off sz }) a N ∧ Kp w Pr w Pr' ∧ (∀ b o, b < base → Pr' b o → Pr b o) ∧ ∀ k, bk' (.bx k) = bk (.bx k) := by
  have I2 := I.dropBox heq
  obtain ⟨v, hv1, o, cap, cs', c, T, h1, h0, hk', hle, hz, hn, hb, hsz⟩ := I.slots t _ heq
  rw [hk] at hk'; cases hk'
  obtain ⟨⟨T2, c2, vs, hb2, hpre, hrl, hone⟩, hfree⟩ := I.boxes k cs hk
  rw [hb] at hb2; cases hb2
  have hown := I.own (.bx k) ⟨cs, hk⟩
  have htN : t < N := by rw [← I.size]; exact (Array.getElem?_eq_some_iff.1 hv1).1
  have hlen := hrl.length
  have hnl : ∀ x, live (st.dropBox t k) x → bk x ≠ bk (.bx k) := by
    intro x hx e
    have hl : live st x ∧ x ≠ .bx k := by
      cases x with
      | bx j =>
        obtain ⟨cs2, h⟩ := hx
        have h' : look (drop1 st.bx k) j = some cs2 := h
        rw [look_drop1] at h'
        split at h'
        · simp at h'
        · rename_i hj; exact ⟨⟨cs2, h'⟩, by simpa using hj⟩
      | sx u =>
        refine ⟨?_, by simp⟩
        rcases hx with ⟨sz', n', cs', h⟩ | ⟨z, h⟩
        · rw [look_dropBox] at h
          split at h
          · simp at h
          · cases hq : look st.sl u with
            | none => simp [hq] at h
            | some y =>
              simp only [hq, Option.map_some, Option.some.injEq] at h
              split at h
              · subst h; exact .inl ⟨sz', n', cs', hq⟩
              · simp at h
        · simp only [St.dropBox] at h
          rw [lookP_ne', lookP_notBox] at h
          split at h
          · simp at h
          · split at h
            · exact .inr ⟨z, h⟩
            · simp at h
      | cx j o =>
        refine ⟨?_, by simp⟩
        obtain ⟨z, h⟩ := hx
        simp only [St.dropBox] at h
        rw [lookP_ne', lookP_notBox] at h
        split at h
        · simp at h
        · split at h
          · exact ⟨z, h⟩
          · simp at h
    exact hl.2 (I.inj x (.bx k) hl.1 ⟨cs, hk⟩ e)
  obtain ⟨Pr', hP'⟩ : ∃ Pr' : Prot, ∀ b' o', Pr' b' o' ↔ (Pr b' o' ∨ (b' = bk (.bx k) ∧ o ≤ o' ∧ o' < o + n * sz)) := ⟨fun b' o' => _, fun _ _ => Iff.rfl⟩
  have hK : Kp w Pr w Pr' := ⟨fun b o h => (hP' b o).2 (.inl h), fun _ _ _ => rfl⟩
  have I3 := I2.wr_free (wr_refl w (bk (.bx k)) ⟨c, T, _, hb⟩) hown.2 hnl hK (fun b' o' h hne => ((hP' b' o').1 h).resolve_right (fun h => hne h.1))
  have hm : MadeOk base w Pr' bk (st.dropBox t k) a { v := .pv (.sl sz n ((cs.drop off).take (n * sz))), gr := grIf g off sz } v := by
    refine ⟨fun _ _ => ?_, fun _ _ _ h => by simp at h, fun z hz' => ?_, fun q h => by simp at h⟩
    · rw [h1]
      show Rp w Pr' _ _
      by_cases hn0 : n = 0
      · subst hn0
        simpa using Rp.sl (w := w) (Pr := Pr') (sz := sz) (n := 0) (cap := cap) (b := bk (.bx k)) (o := o) .nil (by simp) (by simp) (Nat.zero_le _) (fun j v hj => by simp at hj) (fun i hi => by simp at hi)
      · obtain rfl : o = off := h0.resolve_right (fun h => hn0 h.1)
        have hr2 := rangeAt_take (rangeAt_drop (range_pre hb hpre) o) (n * sz)
        rw [Nat.zero_add] at hr2
        exact .sl (RpL.mono hK ((hrl.drop o).take (n * sz))) (fun v hv => hone v (List.mem_of_mem_drop (List.mem_of_mem_take hv))) (by simp; omega) hn hr2 (fun i hi => (hP' _ _).2 (.inr ⟨rfl, by omega, by simp at hi; omega⟩))
    · cases g with
      | false => simp [grIf] at hz'
      | true =>
      simp only [grIf] at hz'
      split at hz'
      · rename_i hoff
        simp only [Option.some.injEq] at hz'; subst hz'
        have ho0 : o = 0 := by rcases h0 with h0 | ⟨_, h0⟩ <;> omega
        refine ⟨bk (.bx k), o, n, cap, _, rfl, h1, ⟨hz, hn, ⟨c, T, hb, hsz⟩, fun o' ho => ?_⟩, ho0, hown.1, hown.2, hnl⟩
        rcases (hP' _ _).1 ho with ho | ho
        · exact absurd ho (hfree o')
        · omega
      · simp at hz'
  obtain ⟨bk', I4, hbk⟩ := I3.made0 htN hm
  rw [put_same hv1] at I4
  exact ⟨Pr', bk', I4, hK, fun b o' hlt h => ((hP' b o').1 h).resolve_right (fun h => by omega), hbk⟩
/-- An own array is from here on only read. -/
theorem Inv.stillG (g : Bool) (I : Inv base w Pr bk st a N) (t : Nat) : ∃ Pr' bk', Inv base w Pr' bk' (st.stillG g t) a N ∧ Kp w Pr w Pr' ∧ (∀ b o, b < base → Pr' b o → Pr b o) ∧ ∀ k, bk' (.bx k) = bk (.bx k) := by
  unfold St.stillG
  split
  · rename_i sz n cs heq
    obtain ⟨I2, hfree⟩ := I.dropEx heq
    obtain ⟨v, hv1, o, cap, vs, h1, h2, h3, h4, h5, h6, h7⟩ := I.slots t _ heq
    have hown := I.own (.sx t) (.inl ⟨sz, n, cs, heq⟩)
    have htN : t < N := by rw [← I.size]; exact (Array.getElem?_eq_some_iff.1 hv1).1
    have hlen := h2.length
    obtain ⟨Pr', hP'⟩ : ∃ Pr' : Prot, ∀ b' o', Pr' b' o' ↔ (Pr b' o' ∨ (b' = bk (.sx t) ∧ o ≤ o' ∧ o' < o + n * sz)) := ⟨fun b' o' => _, fun _ _ => Iff.rfl⟩
    have hK : Kp w Pr w Pr' := ⟨fun b o h => (hP' b o).2 (.inl h), fun _ _ _ => rfl⟩
    have I3 := I2.wr_free (wr_refl w (bk (.sx t)) (by obtain ⟨c, T, e, _⟩ := h6.there; exact ⟨c, T, _, e⟩)) hown.2 hfree hK (fun b' o' h hne => ((hP' b' o').1 h).resolve_right (fun h => hne h.1))
    have hm : MadeOk base w Pr' bk { st with sl := (drop1 st.sl t).map (killA t) } a { v := .pv (.sl sz n cs) } v := by
      refine madeOk_pv ?_
      rw [h1]
      exact .sl (RpL.mono hK h2) h3 h4 h6.le h5 (fun i hi => (hP' _ _).2 (.inr ⟨rfl, by omega, by omega⟩))
    obtain ⟨bk', I4, hbk⟩ := I3.made0 htN hm
    rw [put_same hv1] at I4
    exact ⟨Pr', bk', I4, hK, fun b o' hlt h => ((hP' b o').1 h).resolve_right (fun h => by omega), hbk⟩
  · rename_i k off sz n heq
    split
    · rename_i cs hk
      exact I.freeze g heq hk
    · exact ⟨Pr, bk, I, Kp.refl _ _, fun _ _ _ h => h, fun _ => rfl⟩
  · exact ⟨Pr, bk, I, Kp.refl _ _, fun _ _ _ h => h, fun _ => rfl⟩
theorem Good.stillG (g : Bool) {w0 : World} {Pr0 : Prot} (h : Good base w0 Pr0 N pin st a w) (t : Nat) : Good base w0 Pr0 N pin (st.stillG g t) a w := by
  obtain ⟨Pr, bk, I, hb, hp, ho, hpn, hkc, hdf⟩ := h
  obtain ⟨Pr', bk', I', hk, hp', hbk⟩ := I.stillG g t
  exact ⟨Pr', bk', I', hb, fun b o hlt h => hp b o hlt (hp' b o hlt h), ho, fun k b e => (hbk k).trans (hpn k b e), fun b o v h1 h2 => by
    obtain ⟨h3, h4⟩ := hkc b o v h1 h2
    exact ⟨hk.pr b o h3, h4⟩, hdf⟩
theorem Good.stills {w0 : World} {Pr0 : Prot} : ∀ (l : List Nat) {st : St}, Good base w0 Pr0 N pin st a w → Good base w0 Pr0 N pin (l.foldl St.cold1 st) a w
  | [], _, h => h
  | t :: l, _, h => Good.stills l (h.stillG false t)
theorem look_keepL (l : List (Nat × AV)) (t : Nat) : ∀ ks : List Nat, look (keepL l ks) t = (if ks.contains t then look l t else none).map fun av => if isRef av then .dead else av
  | [] => by simp [keepL, look]
  | k :: ks => by
    have ih := look_keepL l t ks
    simp only [keepL]
    by_cases e : k = t
    · subst e
      cases h : look l k with
      | none => simp only [ih]; split <;> simp_all
      | some v => simp [look, shedR]
    · have e2 : ((k :: ks).contains t) = ks.contains t := by
        have : (t == k) = false := by simpa using fun h => e h.symm
        rw [List.contains_cons, this, Bool.false_or]
      rw [e2]
      cases h : look l k with
      | none => simp only [ih]
      | some v => simp only [look]; rw [if_neg e]; exact ih
theorem look_keepB (l : List (Nat × List PV)) (t : Nat) : ∀ ks : List Nat, look (keepB l ks) t = if ks.contains t then look l t else none
  | [] => by simp [keepB, look]
  | k :: ks => by
    have ih := look_keepB l t ks
    simp only [keepB]
    by_cases e : k = t
    · subst e
      cases h : look l k with
      | none => simp only [ih]; split <;> simp_all
      | some v => simp [look]
    · have e2 : ((k :: ks).contains t) = ks.contains t := by
        have : (t == k) = false := by simpa using fun h => e h.symm
        rw [List.contains_cons, this, Bool.false_or]
      rw [e2]
      cases h : look l k with
      | none => simp only [ih]
      | some v => simp only [look]; rw [if_neg e]; exact ih
theorem lookP_app (l m : List (Pl × Nat)) (p : Pl) : lookP (l ++ m) p = (lookP l p).or (lookP m p) := by
  induction l with
  | nil => simp [lookP]
  | cons x l ih =>
    obtain ⟨k, v⟩ := x
    simp only [List.cons_append, lookP]
    split
    · simp
    · exact ih
theorem lookP_keepG (l : List (Pl × Nat)) (p : Pl) : ∀ ks : List Nat, lookP (keepG l ks) p = if p.kept ks then lookP l p else none
  | [] => by cases p <;> simp [keepG, lookP, Pl.kept]
  | k :: ks => by
    have ih := lookP_keepG l p ks
    simp only [keepG, lookP_app, ih]
    rw [lookP_filter (Pl.of k) l p]
    cases p with
    | s t =>
      by_cases e : t = k
      · subst e
        cases h : lookP l (.s t) <;> simp [Pl.of, Pl.kept]
      · have : (t == k) = false := by simpa using e
        simp [Pl.of, Pl.kept, e]
    | c t o =>
      by_cases e : t = k
      · subst e
        cases h : lookP l (.c t o) <;> simp [Pl.of, Pl.kept]
      · have : (t == k) = false := by simpa using e
        simp [Pl.of, Pl.kept, e]
theorem newKeys_mem {ks : List Nat} : ∀ {l : List Nat} {k : Nat}, k ∈ l → ks.contains k = false → k ∈ newKeys ks l
  | [], k, h, _ => by simp at h
  | a :: l, k, h, hk => by
    simp only [newKeys]
    split
    · rename_i hc
      rcases List.mem_cons.1 h with rfl | h
      · rw [hk, Bool.false_or] at hc
        exact newKeys_mem (by simpa using hc) hk
      · exact newKeys_mem h hk
    · rcases List.mem_cons.1 h with rfl | h
      · simp
      · exact List.mem_cons_of_mem _ (newKeys_mem h hk)
theorem refsOf_mem : ∀ {l : List (Nat × AV)} {t j : Nat} {av : AV}, look l t = some av → j ∈ refK av → j ∈ refsOf l
  | [], t, j, av, h, _ => by simp [look] at h
  | (k, v) :: l, t, j, av, h, hj => by
    simp only [look] at h
    simp only [refsOf, List.mem_append]
    split at h
    · simp only [Option.some.injEq] at h; subst h; exact .inl hj
    · exact .inr (refsOf_mem h hj)
theorem keysFor_ks {st : St} {ks : List Nat} {k : Nat} (h : ks.contains k = true) : (keysFor st ks).contains k = true := by
  simp only [keysFor, List.contains_eq_mem, List.mem_append, decide_eq_true_eq] at h ⊢
  exact .inl h
theorem keysFor_ref {st : St} {ks : List Nat} {t j : Nat} {av : AV} (h : look (st.keepOnly ks).sl t = some av) (hj : j ∈ refK av) : (keysFor st ks).contains j = true := by
  have h1 := refsOf_mem (l := keepL st.sl ks) h hj
  cases hc : ks.contains j with
  | true => exact keysFor_ks hc
  | false =>
    have := newKeys_mem (ks := ks) (l := refsOf (keepL st.sl ks) ++ (st.bx.map (·.1)).filter (fun k => gk ≤ k)) (List.mem_append_left _ h1) hc
    simp only [keysFor, List.contains_eq_mem, List.mem_append, decide_eq_true_eq]
    exact .inr this
theorem Good.keepOnly {w0 : World} {Pr0 : Prot} (h : Good base w0 Pr0 N pin st a w) (ks : List Nat) : Good base w0 Pr0 N pin (st.keepOnly ks) a w := by
  refine h.less fun Pr bk I => ?_
  have hl : ∀ t, look (st.keepOnly ks).sl t = (if ks.contains t then look st.sl t else none).map fun av => if isRef av then .dead else av := fun t => look_keepL st.sl t ks
  have hb : ∀ k, look (st.keepOnly ks).bx k = if (keysFor st ks).contains k then look st.bx k else none := fun k => look_keepB st.bx k (keysFor st ks)
  have hg : ∀ p, lookP (st.keepOnly ks).gr p = if p.kept ks then lookP st.gr p else none := fun p => lookP_keepG st.gr p ks
  refine I.less (fun t av ht => ?_) (fun k cs hk => ?_) (fun p z hz => ?_) (fun t q ht => by simp [St.keepOnly, look] at ht) (fun t u ht _ => ?_) (fun t av j ht hj cs e => ?_)
  · rw [hl] at ht
    split at ht
    · cases hq : look st.sl t with
      | none => simp [hq] at ht
      | some x =>
        simp only [hq, Option.map_some, Option.some.injEq] at ht
        split at ht
        · obtain ⟨v, hv, _⟩ := I.slots t x hq; exact .inr ⟨ht.symm, v, hv⟩
        · exact .inl (by rw [ht])
    · simp at ht
  · rw [hb] at hk; split at hk
    · exact hk
    · simp at hk
  · rw [hg] at hz
    split at hz
    · rename_i hkp
      refine ⟨hz, ?_⟩
      cases p with
      | s t =>
        simp only [Pl.kept] at hkp
        obtain ⟨o, n, cap, cs, h1, _⟩ := I.grs t z hz
        show look (st.keepOnly ks).sl t = look st.sl t
        rw [hl, if_pos hkp, h1]; rfl
      | c k o =>
        simp only [Pl.kept] at hkp
        show look (st.keepOnly ks).bx k = look st.bx k
        rw [hb, if_pos (keysFor_ks hkp)]
    · simp at hz
  · exfalso
    rcases ht with ht | ⟨off, ht⟩ <;>
    · rw [hl] at ht
      split at ht
      · cases hq : look st.sl t with
        | none => simp [hq] at ht
        | some x => simp only [hq, Option.map_some, Option.some.injEq] at ht; split at ht <;> simp_all [isRef]
      · simp at ht
  · rw [hb, if_pos (keysFor_ref ht hj)]; exact e
end
end Go.Proofs.YtibbgjafjhcemaaDoor.Cul
/-! M18 -/
set_option linter.unusedVariables false
set_option linter.unusedSimpArgs false
namespace Go.Proofs.YtibbgjafjhcemaaDoor.Cul
open Go Go.RowKit
/-- What the operation reads is the same in the second frame. -/
structure Sees (o : Oper) (st st' : St) : Prop where
  ev : ∀ x ∈ o.op.operands.toList, ∀ av, st.ev x = some av → (∀ cs s, av ≠ .newp cs s) → st'.ev x = some av
  ex : ∀ u sz n cs, look st.sl u = some (.ex sz n cs) → look st'.sl u = some (.ex sz n cs)
  bx : st'.bx = st.bx
  gr : st'.gr = st.gr
  tg : ∀ t, Operand.tmp t ∈ o.op.operands.toList → st'.tag t = st.tag t
section
variable {P : Program} {call : Cl} {o : Oper} {st st' : St}
theorem pvMono {x : Operand} (h : ∀ av, st.ev x = some av → (∀ cs s, av ≠ .newp cs s) → st'.ev x = some av) {p : PV} (hp : st.pv x = some p) : st'.pv x = some p := by
  have := h _ (pv_ev hp) (by simp)
  simp [St.pv, this]
theorem Sees.pv (S : Sees o st st') {x : Operand} (hx : x ∈ o.op.operands.toList) {p : PV} (hp : st.pv x = some p) : st'.pv x = some p := pvMono (S.ev x hx) hp
theorem Sees.val (S : Sees o st st') {x : Operand} (hx : x ∈ o.op.operands.toList) {v : Value} (h : st.val x = some v) : st'.val x = some v := by
  simp only [St.val, Option.bind_eq_some_iff] at h ⊢
  obtain ⟨p, h1, h2⟩ := h
  exact ⟨p, S.pv hx h1, h2⟩
theorem Sees.int (S : Sees o st st') {x : Operand} (hx : x ∈ o.op.operands.toList) {n : Int} (h : (st.pv x).bind intOfPV = some n) : (st'.pv x).bind intOfPV = some n := by
  simp only [Option.bind_eq_some_iff] at h ⊢
  obtain ⟨p, h1, h2⟩ := h
  exact ⟨p, S.pv hx h1, h2⟩
theorem partsOf_sees : ∀ (l : List (Nat × Operand)) (r : List (Nat × PV)), (∀ x ∈ l.map (·.2), ∀ av, st.ev x = some av → (∀ cs s, av ≠ .newp cs s) → st'.ev x = some av) → partsOf st l = some r → partsOf st' l = some r
  | [], r, h, hp => by simpa [partsOf] using hp
  | (i, x) :: l, r, h, hp => by
    simp only [partsOf, Option.bind_eq_some_iff] at hp ⊢
    obtain ⟨p, h1, h2⟩ := hp
    refine ⟨p, pvMono (h x (by simp)) h1, ?_⟩
    split at h2
    · simp at h2
    · rename_i hn
      rw [if_neg hn]
      simp only [Option.map_eq_some_iff] at h2 ⊢
      obtain ⟨q, h3, h4⟩ := h2
      exact ⟨q, partsOf_sees l q (fun y hy => h y (by simp at hy ⊢; exact .inr hy)) h3, h4⟩
theorem capsOf_bx (h : st'.bx = st.bx) : ∀ l, capsOf st' l = capsOf st l
  | [] => rfl
  | .pv p :: l => by simp [capsOf, capsOf_bx h l]
  | .bp k off :: l => by simp [capsOf, capsOf_bx h l, h]
theorem argOf_bx (h : st'.bx = st.bx) : ∀ av, st'.argOf av = st.argOf av
  | .pv p => rfl
  | .bp k off => by simp [St.argOf, h]
  | .cl f caps => by simp [St.argOf, capsOf_bx h]
  | .ex .. => rfl
  | .xr .. => rfl
  | .xe .. => rfl
  | .newp .. => rfl
  | .dead => rfl
  | .bs .. => by simp [St.argOf, h]
  | .mv .. => rfl
  | .tg .. => rfl
theorem argsOf_sees (hb : st'.bx = st.bx) : ∀ (l : List Operand) (r : List PV), (∀ x ∈ l, ∀ av, st.ev x = some av → (∀ cs s, av ≠ .newp cs s) → st'.ev x = some av) → argsOf st l = some r → argsOf st' l = some r ∧ ∀ x ∈ l, st'.ev x = st.ev x
  | [], r, h, hp => ⟨by simpa [argsOf] using hp, by simp⟩
  | x :: l, r, h, hp => by
    simp only [argsOf, Option.bind_eq_some_iff, Option.map_eq_some_iff] at hp ⊢
    obtain ⟨p, ⟨av, h0, h1⟩, q, h3, h4⟩ := hp
    have hx := h x (by simp) av h0 (fun cs s e => by subst e; simp [St.argOf] at h1)
    obtain ⟨i1, i2⟩ := argsOf_sees hb l q (fun y hy => h y (by simp; exact .inr hy)) h3
    refine ⟨⟨p, ⟨av, hx, by rw [argOf_bx hb]; exact h1⟩, q, i1, h4⟩, fun y hy => ?_⟩
    rcases List.mem_cons.1 hy with rfl | hy
    · rw [hx, h0]
    · exact i2 y hy
theorem capturedOf_sees : ∀ (l : List Operand) (r : List Cap), (∀ x ∈ l, ∀ av, st.ev x = some av → (∀ cs s, av ≠ .newp cs s) → st'.ev x = some av) → capturedOf st l = some r → capturedOf st' l = some r
  | [], r, h, hp => by simpa [capturedOf] using hp
  | x :: l, r, h, hp => by
    simp only [capturedOf] at hp ⊢
    have ih := capturedOf_sees l
    split at hp
    · rename_i p heq
      rw [h x (by simp) _ heq (by simp)]
      simp only [Option.map_eq_some_iff] at hp ⊢
      obtain ⟨q, h3, h4⟩ := hp
      exact ⟨q, ih q (fun y hy => h y (by simp; exact .inr hy)) h3, h4⟩
    · rename_i k off heq
      rw [h x (by simp) _ heq (by simp)]
      simp only [Option.map_eq_some_iff] at hp ⊢
      obtain ⟨q, h3, h4⟩ := hp
      exact ⟨q, ih q (fun y hy => h y (by simp; exact .inr hy)) h3, h4⟩
    · simp at hp
theorem quiet_sees (S : Sees o st st') {m : Made} (h : quiet P call o st = some m) : quiet P call o st' = some m := by
  cases ho : o.op with
  | move x =>
    have hx : x ∈ o.op.operands.toList := by simp [ho, Op.operands]
    simp only [quiet, ho] at h ⊢
    have key := S.ev x hx
    have htg : ∀ t, x = .tmp t → st'.tag t = st.tag t := fun t e => S.tg t (e ▸ hx)
    cases he : st.ev x with
    | none => rw [he] at h; cases x <;> simp at h
    | some av =>
      rw [he] at h
      cases av with
      | newp cs s => cases x <;> simp at h
      | _ =>
        rw [key _ he (by simp)]
        cases x with
        | tmp t => simpa [S.gr, htg t rfl] using h
        | _ => exact h
  | pick c x y =>
    simp only [quiet, ho, Option.bind_eq_some_iff] at h ⊢
    obtain ⟨v, hc, h⟩ := h
    refine ⟨v, S.val (by simp [ho, Op.operands]) hc, ?_⟩
    split at h
    · rename_i b
      simp only [Option.map_eq_some_iff] at h ⊢
      obtain ⟨p, hp, h⟩ := h
      refine ⟨p, S.pv ?_ hp, h⟩
      cases b <;> simp [ho, Op.operands]
    · simp at h
  | binOp op t x y u =>
    simp only [quiet, ho, Option.bind_eq_some_iff] at h ⊢
    obtain ⟨v, hc, v2, hc2, h⟩ := h
    exact ⟨v, S.val (by simp [ho, Op.operands]) hc, v2, S.val (by simp [ho, Op.operands]) hc2, h⟩
  | unOp op t x =>
    simp only [quiet, ho, Option.bind_eq_some_iff] at h ⊢
    obtain ⟨v, hc, h⟩ := h
    exact ⟨v, S.val (by simp [ho, Op.operands]) hc, h⟩
  | convert s d x =>
    simp only [quiet, ho] at h ⊢
    cases hp : st.pv x with
    | none => rw [hp] at h; simp at h
    | some p => rw [hp] at h; rw [S.pv (by simp [ho, Op.operands]) hp]; exact h
  | fieldAddr s x f =>
    simp only [quiet, ho, Option.bind_eq_some_iff] at h ⊢
    obtain ⟨v, hc, h⟩ := h
    refine ⟨v, hc, ?_⟩
    have key := S.ev x (by simp [ho, Op.operands])
    split at h
    · rename_i he; rw [key _ he (by simp)]; exact h
    · rename_i he; rw [key _ he (by simp)]; exact h
    · rename_i he; rw [key _ he (by simp)]; exact h
    · simp at h
  | field s x f =>
    simp only [quiet, ho, Option.bind_eq_some_iff] at h ⊢
    obtain ⟨v, hc, h⟩ := h
    refine ⟨v, hc, ?_⟩
    cases hp : st.pv x with
    | none => rw [hp] at h; simp at h
    | some p => rw [hp] at h; rw [S.pv (by simp [ho, Op.operands]) hp]; exact h
  | indexAddr t x i =>
    simp only [quiet, ho] at h ⊢
    rw [Option.bind_eq_some_iff] at h ⊢
    obtain ⟨n, hn, h⟩ := h
    refine ⟨n, S.int (by simp [ho, Op.operands]) hn, ?_⟩
    have key := S.ev x (by simp [ho, Op.operands])
    split at h
    · rw [Option.bind_eq_some_iff] at h ⊢
      obtain ⟨s, hs, h⟩ := h
      refine ⟨s, hs, ?_⟩
      split at h
      · rename_i hc; rw [if_pos hc]
        split at h
        · rename_i he; rw [key _ he (by simp)]; exact h
        · rename_i he; rw [key _ he (by simp)]; exact h
        · simp at h
      · simp at h
    · rw [Option.bind_eq_some_iff] at h ⊢
      obtain ⟨s, hs, h⟩ := h
      refine ⟨s, hs, ?_⟩
      split at h
      · rename_i he; rw [key _ he (by simp)]; exact h
      · rename_i he; rw [key _ he (by simp)]
        simp only
        split at h
        · rename_i he2; rw [S.ex _ _ _ _ he2]; exact h
        · simp at h
      · rename_i he; rw [key _ he (by simp)]; exact h
      · simp at h
    · simp at h
  | index t x i =>
    simp only [quiet, ho] at h ⊢
    split at h
    · rename_i len e cs hu hp
      rw [hu, S.pv (by simp [ho, Op.operands]) hp]
      simp only
      rw [Option.bind_eq_some_iff] at h ⊢
      obtain ⟨n, hn, h⟩ := h
      exact ⟨n, S.int (by simp [ho, Op.operands]) hn, h⟩
    · rename_i hno
      simp only [Option.bind_eq_some_iff] at h
      obtain ⟨v, hc, v2, hc2, h⟩ := h
      have hx : x ∈ o.op.operands.toList := by simp [ho, Op.operands]
      have hi : i ∈ o.op.operands.toList := by simp [ho, Op.operands]
      have e : st'.pv x = st.pv x := by
        simp only [St.val, Option.bind_eq_some_iff] at hc
        obtain ⟨p, h1, h2⟩ := hc
        rw [h1, S.pv hx h1]
      rw [e]
      split
      · rename_i len e cs hu hp; exact absurd hp (hno len e cs hu)
      · simp only [Option.bind_eq_some_iff]
        exact ⟨v, S.val hx hc, v2, S.val hi hc2, h⟩
  | load t x =>
    simp only [quiet, ho] at h ⊢
    have key := S.ev x (by simp [ho, Op.operands])
    split at h
    · rename_i he; rw [key _ he (by simp)]; simp only; rw [S.bx, S.gr]; exact h
    · rename_i he; rw [key _ he (by simp)]; exact h
    · rename_i he; rw [key _ he (by simp)]
      simp only
      split at h
      · rename_i he2; rw [S.ex _ _ _ _ he2]; exact h
      · simp at h
    · simp at h
  | build t ps =>
    simp only [quiet, ho] at h ⊢
    split at h
    · rename_i z ps' hz hp
      rw [hz, partsOf_sees (st' := st') _ _ (fun x hx => S.ev x (by simpa [ho, Op.operands] using hx)) hp]
      exact h
    · simp at h
  | buildSlice t n ps =>
    simp only [quiet, ho] at h ⊢
    split at h
    · rw [Option.bind_eq_some_iff] at h ⊢
      obtain ⟨s, hs, h⟩ := h
      refine ⟨s, hs, ?_⟩
      rw [Option.bind_eq_some_iff] at h ⊢
      obtain ⟨z, hz, h⟩ := h
      refine ⟨z, hz, ?_⟩
      split at h
      · rename_i hc; rw [if_pos hc]
        rw [Option.bind_eq_some_iff] at h ⊢
        obtain ⟨q, hp, h⟩ := h
        exact ⟨q, partsOf_sees (st' := st') _ _ (fun x hx => S.ev x (by simpa [ho, Op.operands] using hx)) hp, h⟩
      · simp at h
    · simp at h
  | extract x i =>
    simp only [quiet, ho] at h ⊢
    have key := S.ev x (by simp [ho, Op.operands])
    split at h
    · rename_i hp; rw [key _ hp (by simp)]; exact h
    · rename_i hp; rw [key _ hp (by simp)]; exact h
    · simp at h
  | slice t x lo hi mx =>
    simp only [quiet, ho] at h ⊢
    have hx : x ∈ o.op.operands.toList := by simp [ho, Op.operands]
    have hlo : ∀ l, lo = some l → l ∈ o.op.operands.toList := fun l e => by subst e; simp [ho, Op.operands]
    have hhi : ∀ l, hi = some l → l ∈ o.op.operands.toList := fun l e => by subst e; simp [ho, Op.operands]
    have key := S.ev x hx
    split at h
    · rename_i hp; rw [key _ hp (by simp)]
      simp only
      split at h
      · rename_i e hu
        split at h
        · rename_i hc; rw [if_pos hc]
          rw [Option.bind_eq_some_iff] at h ⊢
          obtain ⟨b, hb, h⟩ := h
          refine ⟨b, ?_, ?_⟩
          · cases hi with
            | none => exact hb
            | some y => exact S.int (hhi y rfl) hb
          · rw [Option.bind_eq_some_iff] at h ⊢
            obtain ⟨c, hc, h⟩ := h
            refine ⟨c, ?_, h⟩
            cases lo with
            | none => exact hc
            | some y => exact S.int (hlo y rfl) hc
        · simp at h
      · simp at h
    · rename_i hp; rw [key _ hp (by simp)]
      simp only
      split at h
      · rename_i e hu
        split at h
        · rename_i hc; rw [if_pos hc]
          rw [Option.bind_eq_some_iff] at h ⊢
          obtain ⟨b, hb, h⟩ := h
          refine ⟨b, ?_, ?_⟩
          · cases hi with
            | none => exact hb
            | some y => exact S.int (hhi y rfl) hb
          · rw [Option.bind_eq_some_iff] at h ⊢
            obtain ⟨c, hc, h⟩ := h
            refine ⟨c, ?_, h⟩
            cases lo with
            | none => exact hc
            | some y => exact S.int (hlo y rfl) hc
        · simp at h
      · simp at h
    · rename_i p hno hp
      rw [key _ hp (by simp)]
      cases p with
      | sl sz n cs => exact absurd rfl (hno sz n cs)
      | _ =>
        simp only at h ⊢
        rw [Option.bind_eq_some_iff] at h ⊢
        obtain ⟨b, hb, h⟩ := h
        refine ⟨b, hb, ?_⟩
        cases mx with
        | some z => cases lo <;> cases hi <;> simp at h
        | none =>
          cases lo with
          | none =>
            cases hi with
            | none => exact h
            | some y =>
              simp only [Option.bind_eq_some_iff] at h ⊢
              obtain ⟨v, hv, h⟩ := h
              exact ⟨v, S.val (hhi y rfl) hv, h⟩
          | some l =>
            cases hi with
            | none =>
              simp only [Option.bind_eq_some_iff] at h ⊢
              obtain ⟨v, hv, h⟩ := h
              exact ⟨v, S.val (hlo l rfl) hv, h⟩
            | some y =>
              simp only [Option.bind_eq_some_iff] at h ⊢
              obtain ⟨v, hv, v2, hv2, h⟩ := h
              exact ⟨v, S.val (hlo l rfl) hv, v2, S.val (hhi y rfl) hv2, h⟩
    · simp at h
  | makeFunc f fi ca =>
    cases f with
    | func f =>
      simp only [quiet, ho] at h ⊢
      split at h
      · simp only [Option.map_eq_some_iff] at h ⊢
        obtain ⟨q, hp, h⟩ := h
        exact ⟨q, capturedOf_sees (st' := st') _ _ (fun x hx => S.ev x (by simp [ho, Op.operands]; exact .inr (by simpa using hx))) hp, h⟩
      · rename_i x hfx hcx
        have key := S.ev x (by
          have : x ∈ fi.toList := by rw [hfx]; simp
          simp [ho, Op.operands]; exact .inl (by simpa using this))
        split at h
        · rename_i he; rw [key _ he (by simp)]; exact h
        · simp at h
      · simp at h
    | _ => simp [quiet, ho] at h
  | nilCheck x =>
    simp only [quiet, ho] at h ⊢
    have key := S.ev x (by simp [ho, Op.operands])
    split at h
    · rename_i he; rw [key _ he (by simp)]; exact h
    · rename_i he; rw [key _ he (by simp)]; exact h
    · rename_i he; rw [key _ he (by simp)]; exact h
    · simp at h
  | call c =>
    obtain ⟨callee, args, ts⟩ := c
    cases callee with
    | value g =>
      simp only [quiet, ho] at h ⊢
      have key := S.ev g (by simp [ho, Op.operands, Call.operands])
      split at h
      · rename_i v he
        simp only [Option.bind_eq_some_iff] at h
        obtain ⟨p, hp, h⟩ := h
        rw [key _ he (fun cs s e => by subst e; simp [St.argOf] at hp)]
        simp only [Option.bind_eq_some_iff]
        refine ⟨p, by rw [argOf_bx S.bx]; exact hp, ?_⟩
        split at h
        · simp only [Option.bind_eq_some_iff] at h ⊢
          obtain ⟨q, hq, h⟩ := h
          obtain ⟨i1, i2⟩ := argsOf_sees (st' := st') S.bx _ _ (fun x hx => S.ev x (by simp [ho, Op.operands, Call.operands]; exact .inr (by simpa using hx))) hq
          refine ⟨q, i1, ?_⟩
          have : (args.toList.any fun x => ((st'.ev x).map leadsOut).getD true) = (args.toList.any fun x => ((st.ev x).map leadsOut).getD true) := by
            rw [Bool.eq_iff_iff]
            simp only [List.any_eq_true]
            constructor
            · rintro ⟨x, hx, hh⟩; exact ⟨x, hx, by rw [← i2 x hx]; exact hh⟩
            · rintro ⟨x, hx, hh⟩; exact ⟨x, hx, by rw [i2 x hx]; exact hh⟩
          have e2 := this
          simp only [Array.any_toList] at e2
          simp only [Array.any_toList] at h ⊢
          rw [e2]; exact h
        · simp at h
      · simp at h
    | builtin b =>
      cases b with
      | len =>
        simp only [quiet, ho] at h ⊢
        split at h
        · rename_i x hx
          have hm : x ∈ o.op.operands.toList := by
            have : x ∈ args.toList := by rw [hx]; simp
            simp [ho, Op.operands, Call.operands]; simpa using this
          have key := S.ev x hm
          split at h
          · rename_i he; rw [key _ he (by simp)]; exact h
          · rename_i he; rw [key _ he (by simp)]
            simp only
            split at h
            · rename_i he2 hu; rw [S.ex _ _ _ _ he2, hu]; exact h
            · simp at h
          · rename_i he; rw [key _ he (by simp)]; exact h
          · rename_i p hno he; rw [key _ he (by simp)]
            cases p with
            | sl sz n cs => exact absurd rfl (hno sz n cs)
            | _ => exact h
          · simp at h
        · simp at h
      | max =>
        simp only [quiet, ho] at h ⊢
        split at h
        · rename_i x y hx
          have hm : x ∈ args.toList ∧ y ∈ args.toList := by rw [hx]; simp
          simp only [Option.bind_eq_some_iff] at h ⊢
          obtain ⟨v, hv, v2, hv2, h⟩ := h
          exact ⟨v, S.val (by simp [ho, Op.operands, Call.operands]; simpa using hm.1) hv, v2, S.val (by simp [ho, Op.operands, Call.operands]; simpa using hm.2) hv2, h⟩
        · simp at h
      | min =>
        simp only [quiet, ho] at h ⊢
        split at h
        · rename_i x y hx
          have hm : x ∈ args.toList ∧ y ∈ args.toList := by rw [hx]; simp
          simp only [Option.bind_eq_some_iff] at h ⊢
          obtain ⟨v, hv, v2, hv2, h⟩ := h
          exact ⟨v, S.val (by simp [ho, Op.operands, Call.operands]; simpa using hm.1) hv, v2, S.val (by simp [ho, Op.operands, Call.operands]; simpa using hm.2) hv2, h⟩
        · simp at h
      | _ => simp [quiet, ho] at h
    | invoke r n => simp [quiet, ho] at h
  | _ => simp [quiet, ho] at h
end
end Go.Proofs.YtibbgjafjhcemaaDoor.Cul
/-! M19 -/
set_option linter.unusedVariables false
set_option linter.unusedSimpArgs false
namespace Go.Proofs.YtibbgjafjhcemaaDoor.Cul
open Go Go.RowKit
section
variable {P : Program} {base : Nat} {w : World} {Pr : Prot} {bk : Key → Nat} {st : St} {a : Act} {N : Nat}
theorem Inv.retag (I : Inv base w Pr bk st a N) {tg' : List (Nat × Option Pl)} (h : ∀ t q, look tg' t = some (some q) → grAt st q → look st.tg t = some (some q)) : Inv base w Pr bk { st with tg := tg' } a N :=
  ⟨I.size, I.defers, I.hb, I.prot, fun t av ht => (by
    obtain ⟨v, hv, hr⟩ := I.slots t av ht
    exact ⟨v, hv, by cases av <;> exact hr⟩), fun x hx => I.own x (by cases x <;> exact hx), fun x y hx hy => I.inj x y (by cases x <;> exact hx) (by cases y <;> exact hy), I.boxes, I.grs, I.grc, fun t q ht hq => I.tags t q (h t q ht hq) hq⟩
theorem look_putD (st : St) (d : Nat) (m : Made) (t : Nat) : look (st.putD (some d) m).sl t = if t = d then some m.v else look st.sl t := by
  simp only [St.putD, look]
  by_cases h : t = d
  · simp [h]
  · rw [if_neg (Ne.symm h), look_drop1, if_neg h, if_neg h]
theorem lookT_putD (st : St) (d : Nat) (m : Made) (t : Nat) : look (st.putD (some d) m).tg t = if t = d then some m.tg else look st.tg t := by
  simp only [St.putD, look]
  by_cases h : t = d
  · simp [h]
  · rw [if_neg (Ne.symm h), look_drop1, if_neg h, if_neg h]
theorem refersTo_ex {d t : Nat} {av : AV} {v : Value} (hr : refersTo d av = true) (h : RpA st a w Pr bk t av v) : exAt st d := by
  cases av with
  | xr u => simp only [refersTo, decide_eq_true_eq] at hr; subst hr; exact h.2
  | xe u off => simp only [refersTo, decide_eq_true_eq] at hr; subst hr; exact h.2
  | _ => simp [refersTo] at hr
/-- A value made in a drawn region. -/
theorem Inv.putD (I : Inv base w Pr bk st a N) {d : Nat} (hd : d < N) (hf1 : lookP st.gr (.s d) = none) (hf2 : ¬ exAt st d) {m : Made} {v : Value} (hm : MadeOk base w Pr bk st a m v) (hgr : m.gr = none) (hex : ∀ sz n cs, m.v ≠ .ex sz n cs) :
    ∃ bk', Inv base w Pr bk' (st.putD (some d) m) (a.put (some d) v) N ∧ (∀ x, live (st.putD (some d) m) x → live st x ∧ bk' x = bk x) ∧ ∀ k, bk' (.bx k) = bk (.bx k) := by
  obtain ⟨bk', I1, hbk⟩ := I.made hd hm
  have hmv := hm.val hex d
  have href : ∀ t av, (if t = d then some m.v else look st.sl t) = some av → refersTo d av = false := by
    intro t av h
    cases e : refersTo d av with
    | false => rfl
    | true =>
      exfalso
      split at h
      · simp only [Option.some.injEq] at h; subst h
        exact hf2 (refersTo_ex e hmv)
      · obtain ⟨u, _, hr⟩ := I.slots t av h
        exact hf2 (refersTo_ex e hr)
  have hsl : ∀ t, look (st.made (some d) m).sl t = look (st.putD (some d) m).sl t := by
    intro t
    rw [look_made, look_putD]
    cases e : (if t = d then some m.v else look st.sl t) with
    | none => rfl
    | some av => simp [href t av e]
  have hgrr : ∀ p, lookP (st.made (some d) m).gr p = lookP (st.putD (some d) m).gr p := by
    intro p
    rw [lookP_made]
    show _ = lookP st.gr p
    split
    · rename_i e; rw [e, hf1, hgr]
    · rfl
  have I2 := I1.retag (tg' := (st.putD (some d) m).tg) (fun t q h hq => by
    have hqd : q ≠ .s d := by
      intro e; subst e
      obtain ⟨z, hz⟩ := hq
      rw [lookP_made, if_pos rfl, hgr] at hz; simp at hz
    rw [lookT_putD] at h
    rw [lookT_made]
    split
    · rename_i e; rw [if_pos e] at h; simp only [Option.some.injEq] at h; rw [h]; rfl
    · rename_i e; rw [if_neg e] at h; rw [h]; simp [hqd])
  have I3 : Inv base w Pr bk' (st.putD (some d) m) (a.put (some d) v) N := by
    refine I2.less (fun t av h => .inl ?_) (fun k cs h => h) (fun p z h => ⟨?_, ?_⟩) (fun t q h => h) (fun t u _ hx => ?_) (fun _ _ _ _ _ _ e => e)
    · show look (st.made (some d) m).sl t = some av
      rw [hsl]; exact h
    · show lookP (st.made (some d) m).gr p = some z
      rw [hgrr]; exact h
    · cases p with
      | s t => exact (hsl t).symm
      | c k o => rfl
    · obtain ⟨sz, n, cs, hx⟩ := hx
      exact ⟨sz, n, cs, (hsl u).symm.trans hx⟩
  refine ⟨bk', I3, fun x hx => ?_, fun k => hbk _ (by simp)⟩
  have hxd : x ≠ .sx d ∧ live st x := by
    cases x with
    | bx k => exact ⟨by simp, hx⟩
    | cx k o => exact ⟨by simp, hx⟩
    | sx t =>
      rcases hx with ⟨sz, n, cs, hx⟩ | ⟨z, hx⟩
      · rw [look_putD] at hx
        by_cases e : t = d
        · rw [if_pos e] at hx; exact absurd (Option.some.inj hx) (hex sz n cs)
        · rw [if_neg e] at hx; exact ⟨by simpa using e, .inl ⟨sz, n, cs, hx⟩⟩
      · by_cases e : t = d
        · subst e; exact absurd (show lookP st.gr (.s t) = some z from hx) (by rw [hf1]; simp)
        · exact ⟨by simpa using e, .inr ⟨z, hx⟩⟩
  exact ⟨hxd.2, hbk x hxd.1⟩
def hush : AV → AV
  | .newp _ _ => .dead
  | v => v
/-- The run in text order, told by what each operation made. -/
structure Told (P : Program) (call : Cl) (ops : List Oper) (st : St) (n : Nat) (dOf : Nat → Nat) (ms : Nat → Made) (sT : Nat → St) : Prop where
  dst : ∀ i, i < n → ∃ o, ops[i]? = some o ∧ o.dst = some (dOf i)
  step : ∀ i, i < n → ∀ o, ops[i]? = some o → ∃ b, aWanted ops o (sT i) = some b ∧ (b = true → quietD P call o (sT i) = some (ms i)) ∧ (b = false → ms i = { v := undefA })
  done : ∀ i, i ≤ n → ∀ j, j < i → look (sT i).sl (dOf j) = some (ms j).v ∧ look (sT i).tg (dOf j) = some (ms j).tg
  rest : ∀ i, i ≤ n → ∀ t, (∀ j, j < i → dOf j ≠ t) → look (sT i).sl t = look st.sl t ∧ look (sT i).tg t = look st.tg t
  bx : ∀ i, i ≤ n → (sT i).bx = st.bx ∧ (sT i).gr = st.gr
theorem told {call : Cl} {ops : List Oper} {s : St} {dOf : Nat → Nat} : ∀ (l : List Oper) (st : St), (∀ i o, l[i]? = some o → o.dst = some (dOf i)) → (∀ i j, i < l.length → j < l.length → dOf i = dOf j → i = j) →
    aopsD P call ops l st = some s → ∃ (ms : Nat → Made) (sT : Nat → St), sT l.length = s ∧ sT 0 = st ∧
      (∀ i, i < l.length → ∀ o, l[i]? = some o → ∃ b, aWanted ops o (sT i) = some b ∧ (b = true → quietD P call o (sT i) = some (ms i)) ∧ (b = false → ms i = { v := undefA })) ∧
      (∀ i, i ≤ l.length → ∀ j, j < i → look (sT i).sl (dOf j) = some (ms j).v ∧ look (sT i).tg (dOf j) = some (ms j).tg) ∧
      (∀ i, i ≤ l.length → ∀ t, (∀ j, j < i → dOf j ≠ t) → look (sT i).sl t = look st.sl t ∧ look (sT i).tg t = look st.tg t) ∧
      (∀ i, i ≤ l.length → (sT i).bx = st.bx ∧ (sT i).gr = st.gr) := by
  intro l
  -- from the back
  suffices H : ∀ (l : List Oper) (pre : List Oper) (st0 st : St) (ms : Nat → Made) (sT : Nat → St), (∀ i o, (pre ++ l)[i]? = some o → o.dst = some (dOf i)) → (∀ i j, i < (pre ++ l).length → j < (pre ++ l).length → dOf i = dOf j → i = j) →
      sT pre.length = st → sT 0 = st0 →
      (∀ i, i < pre.length → ∀ o, pre[i]? = some o → ∃ b, aWanted ops o (sT i) = some b ∧ (b = true → quietD P call o (sT i) = some (ms i)) ∧ (b = false → ms i = { v := undefA })) →
      (∀ i, i ≤ pre.length → ∀ j, j < i → look (sT i).sl (dOf j) = some (ms j).v ∧ look (sT i).tg (dOf j) = some (ms j).tg) →
      (∀ i, i ≤ pre.length → ∀ t, (∀ j, j < i → dOf j ≠ t) → look (sT i).sl t = look st0.sl t ∧ look (sT i).tg t = look st0.tg t) →
      (∀ i, i ≤ pre.length → (sT i).bx = st0.bx ∧ (sT i).gr = st0.gr) → aopsD P call ops l st = some s →
      ∃ (ms : Nat → Made) (sT : Nat → St), sT (pre ++ l).length = s ∧ sT 0 = st0 ∧
      (∀ i, i < (pre ++ l).length → ∀ o, (pre ++ l)[i]? = some o → ∃ b, aWanted ops o (sT i) = some b ∧ (b = true → quietD P call o (sT i) = some (ms i)) ∧ (b = false → ms i = { v := undefA })) ∧
      (∀ i, i ≤ (pre ++ l).length → ∀ j, j < i → look (sT i).sl (dOf j) = some (ms j).v ∧ look (sT i).tg (dOf j) = some (ms j).tg) ∧
      (∀ i, i ≤ (pre ++ l).length → ∀ t, (∀ j, j < i → dOf j ≠ t) → look (sT i).sl t = look st0.sl t ∧ look (sT i).tg t = look st0.tg t) ∧
      (∀ i, i ≤ (pre ++ l).length → (sT i).bx = st0.bx ∧ (sT i).gr = st0.gr) by
    intro st h1 h2 h
    have := H l [] st st (fun _ => { v := .dead }) (fun _ => st) (by simpa using h1) (by simpa using h2) rfl rfl (by simp) (fun i hi j hj => by simp at hi; omega) (fun i hi t _ => ⟨rfl, rfl⟩) (fun _ _ => ⟨rfl, rfl⟩) h
    simpa using this
  clear l
  intro l
  induction l with
  | nil =>
    intro pre st0 st ms sT h1 h2 e1 e2 p1 p2 p3 p4 h
    simp only [aopsD, Option.some.injEq] at h
    subst h
    simp only [List.append_nil]
    exact ⟨ms, sT, e1, e2, p1, p2, p3, p4⟩
  | cons o l ih =>
    intro pre st0 st ms sT h1 h2 e1 e2 p1 p2 p3 p4 h
    simp only [aopsD, Option.bind_eq_some_iff] at h
    obtain ⟨b, hb, h⟩ := h
    have hdo : o.dst = some (dOf pre.length) := h1 pre.length o (by simp)
    obtain ⟨mk, hmk, hrun⟩ : ∃ mk : Made, ((b = true → quietD P call o st = some mk) ∧ (b = false → mk = { v := undefA })) ∧ aopsD P call ops l (st.putD o.dst mk) = some s := by
      cases b with
      | true =>
        simp only [Option.bind_eq_some_iff] at h
        obtain ⟨m, hm, h⟩ := h
        exact ⟨m, ⟨fun _ => hm, fun h => by simp at h⟩, h⟩
      | false => exact ⟨_, ⟨fun h => by simp at h, fun _ => rfl⟩, h⟩
    rw [hdo] at hrun
    have hne : ∀ j, j < pre.length → dOf j ≠ dOf pre.length := fun j hj e => by
      have := h2 j pre.length (by simp; omega) (by simp) e
      omega
    obtain ⟨ms', hms1, hms2⟩ : ∃ ms' : Nat → Made, (∀ j, j < pre.length → ms' j = ms j) ∧ ms' pre.length = mk := ⟨fun j => if j < pre.length then ms j else mk, fun j hj => if_pos hj, if_neg (by omega)⟩
    obtain ⟨sT', hs1, hs2⟩ : ∃ sT' : Nat → St, (∀ j, j ≤ pre.length → sT' j = sT j) ∧ sT' (pre.length + 1) = st.putD (some (dOf pre.length)) mk := ⟨fun j => if j ≤ pre.length then sT j else st.putD (some (dOf pre.length)) mk, fun j hj => if_pos hj, if_neg (by omega)⟩
    have key := ih (pre ++ [o]) st0 (st.putD (some (dOf pre.length)) mk) ms' sT' (by simpa using h1) (by simpa using h2) (by simpa using hs2) (by rw [hs1 0 (by omega), e2])
      (fun i hi o' ho' => by
        simp only [List.length_append, List.length_singleton] at hi
        by_cases e : i = pre.length
        · subst e
          simp at ho'; subst ho'
          refine ⟨b, ?_, ?_, ?_⟩
          · rw [hs1 _ (Nat.le_refl _), e1]; exact hb
          · rw [hs1 _ (Nat.le_refl _), e1, hms2]; exact hmk.1
          · rw [hms2]; exact hmk.2
        · rw [List.getElem?_append_left (by omega)] at ho'
          rw [hs1 i (by omega), hms1 i (by omega)]
          exact p1 i (by omega) o' ho')
      (fun i hi j hj => by
        simp only [List.length_append, List.length_singleton] at hi
        by_cases e : i = pre.length + 1
        · subst e
          rw [hs2, look_putD, lookT_putD]
          by_cases ej : j = pre.length
          · subst ej; rw [if_pos rfl, if_pos rfl, hms2]; exact ⟨rfl, rfl⟩
          · rw [if_neg (hne j (by omega)), if_neg (hne j (by omega)), hms1 j (by omega), ← e1]
            exact p2 pre.length (Nat.le_refl _) j (by omega)
        · rw [hs1 i (by omega), hms1 j (by omega)]
          exact p2 i (by omega) j hj)
      (fun i hi t ht => by
        simp only [List.length_append, List.length_singleton] at hi
        by_cases e : i = pre.length + 1
        · subst e
          have h0 : t ≠ dOf pre.length := fun e => ht pre.length (by omega) e.symm
          rw [hs2, look_putD, lookT_putD, if_neg h0, if_neg h0, ← e1]
          exact p3 pre.length (Nat.le_refl _) t (fun j hj => ht j (by omega))
        · rw [hs1 i (by omega)]
          exact p3 i (by omega) t ht)
      (fun i hi => by
        simp only [List.length_append, List.length_singleton] at hi
        by_cases e : i = pre.length + 1
        · subst e
          rw [hs2]
          have := p4 pre.length (Nat.le_refl _)
          rw [e1] at this
          exact this
        · rw [hs1 i (by omega)]
          exact p4 i (by omega))
      hrun
    simpa using key
end
end Go.Proofs.YtibbgjafjhcemaaDoor.Cul
/-! M20 -/
set_option linter.unusedVariables false
set_option linter.unusedSimpArgs false
namespace Go.Proofs.YtibbgjafjhcemaaDoor.Cul
open Go Go.RowKit
/-- The value by which a new variable, or a new array, is held. -/
def NewV (w : World) (b : Nat) (cs : List PV) : Option (Nat × Nat) → Value → Prop
  | none, v => v = .pointer (some ⟨b, 0, none⟩)
  | some (sz, n), v => ∃ cap c T, v = .slice (some ⟨b, 0, none⟩) n cap ∧ 0 < sz ∧ n ≤ cap ∧ cs.length = n * sz ∧ w.heap[b]? = some (.cells c T (0, 0)) ∧ cap * sz ≤ c.size
def blkOf : Value → Option Nat
  | .pointer (some a) => some a.block
  | .slice (some a) _ _ => some a.block
  | _ => none
theorem NewV.blk {w : World} {b : Nat} {cs : List PV} {s : Option (Nat × Nat)} {v : Value} (h : NewV w b cs s v) : blkOf v = some b := by
  cases s with
  | none => have h' : v = .pointer (some ⟨b, 0, none⟩) := h; subst h'; rfl
  | some x => obtain ⟨cap, c, T, h1, _⟩ := h; subst h1; rfl
theorem NewV.mono {w w' : World} {b : Nat} {cs : List PV} {s : Option (Nat × Nat)} {v : Value} (hh : w'.heap[b]? = w.heap[b]?) (h : NewV w b cs s v) : NewV w' b cs s v := by
  cases s with
  | none => exact h
  | some x => obtain ⟨cap, c, T, h1, h2, h3, h4, h5, h6⟩ := h; exact ⟨cap, c, T, h1, h2, h3, h4, hh.trans h5, h6⟩
/-- A new variable of a drawn region that no slot is told of yet. -/
structure NewAt (base : Nat) (a : Act) (w : World) (Pr : Prot) (d b : Nat) (cs : List PV) (s : Option (Nat × Nat)) : Prop where
  at_ : ∃ v, a.tmps[d]? = some v ∧ NewV w b cs s v
  heap : ∃ c T vs, w.heap[b]? = some (.cells c T (0, 0)) ∧ vs <+: c.toList ∧ RpL w Pr cs vs ∧ One vs
  lo : base ≤ b
  free : ∀ o, ¬ Pr b o
def isOn (listed : Array Bool) (j : Nat) : Prop := listed.getD j false = true
/-- The frame in the midst of a drawn region. -/
structure JJ (base : Nat) (w0 : World) (Pr0 : Prot) (N : Nat) (pin : Pins) (st : St) (n : Nat) (dOf : Nat → Nat) (ms : Nat → Made) (listed : Array Bool) (a : Act) (w : World) (sL : St) (Pr : Prot) (bk : Key → Nat) : Prop where
  inv : Inv base w Pr bk sL a N
  chain : Below base w0 w ∧ (∀ b o, b < base → Pr b o → Pr0 b o) ∧ KO w0 w ∧ (∀ k b, pin.k k = some b → bk (.bx k) = b) ∧ (∀ b o v, Pr0 b o → w0.cell? ⟨b, o, none⟩ = some v → Pr b o ∧ w.cell? ⟨b, o, none⟩ = some v) ∧ ∀ ds, pin.ds = some ds → a.defers = ds
  bx : sL.bx = st.bx
  gr : sL.gr = st.gr
  on : ∀ j, j < n → isOn listed j → look sL.sl (dOf j) = some (hush (ms j).v) ∧ look sL.tg (dOf j) = some (ms j).tg
  off : ∀ t, (∀ j, j < n → isOn listed j → dOf j ≠ t) → look sL.sl t = look st.sl t ∧ look sL.tg t = look st.tg t
  new : ∀ j cs s, j < n → isOn listed j → (ms j).v = .newp cs s → ∃ b, NewAt base a w Pr (dOf j) b cs s ∧ ∀ x, live sL x → bk x ≠ b
  apart : ∀ i j ci cj si sj, i < n → j < n → i ≠ j → isOn listed i → isOn listed j → (ms i).v = .newp ci si → (ms j).v = .newp cj sj → (a.tmps[dOf i]?).bind blkOf ≠ (a.tmps[dOf j]?).bind blkOf
/-- What is new: held by a value, seen by nobody else. -/
def FreshV (w w' : World) (Pr' : Prot) (v : Value) (cs : List PV) (s : Option (Nat × Nat)) : Prop :=
  ∃ b, NewV w' b cs s v ∧ w.heap.size ≤ b ∧ (∃ c T vs, w'.heap[b]? = some (.cells c T (0, 0)) ∧ vs <+: c.toList ∧ RpL w' Pr' cs vs ∧ One vs) ∧ ∀ o, ¬ Pr' b o
section
variable {P : Program} {base : Nat} {w w0 : World} {Pr Pr0 : Prot} {bk : Key → Nat} {st sL : St} {a : Act} {N n : Nat} {dOf : Nat → Nat} {ms : Nat → Made} {listed : Array Bool} {pin : Pins}
theorem on_set {i j : Nat} (h : isOn (listed.setIfInBounds i true) j) : j = i ∨ isOn listed j := by
  by_cases e : i = j
  · exact .inl e.symm
  · unfold isOn at h; rw [getD_set_ne false e] at h; exact .inr h
theorem set_on {i j : Nat} (h : isOn listed j) : isOn (listed.setIfInBounds i true) j := getD_set_true h
theorem set_self {i : Nat} (h : i < listed.size) : isOn (listed.setIfInBounds i true) i := by
  unfold isOn; simp [h]
theorem JJ.next (H : JJ base w0 Pr0 N pin st n dOf ms listed a w sL Pr bk) {i : Nat} (hi : i < n) (hsz : n ≤ listed.size) (hoff : ¬ isOn listed i) (hinj : ∀ i j, i < n → j < n → dOf i = dOf j → i = j) (hd : dOf i < N)
    (hf1 : lookP st.gr (.s (dOf i)) = none) (hf2 : ¬ exAt st (dOf i)) {w' : World} {Pr' : Prot} {v : Value} (hf : Fw w Pr w' Pr') (hm : MadeOk base w' Pr' bk sL a { v := hush (ms i).v, gr := none, tg := (ms i).tg } v) (hx : isEx (ms i).v = false)
    (hnew : ∀ cs s, (ms i).v = .newp cs s → FreshV w w' Pr' v cs s) :
    ∃ sL' bk', JJ base w0 Pr0 N pin st n dOf ms (listed.setIfInBounds i true) (a.put (some (dOf i)) v) w' sL' Pr' bk' := by
  have I' := H.inv.fw hf
  have hN : dOf i < a.tmps.size := by rw [I'.size]; exact hd
  have hno : ∀ j, j < n → isOn listed j → dOf j ≠ dOf i := fun j hj hl e => hoff (hinj j i hj hi e ▸ hl)
  have hLi := H.off (dOf i) hno
  have hf2' : ¬ exAt sL (dOf i) := fun ⟨sz, m, c, h⟩ => hf2 ⟨sz, m, c, hLi.1 ▸ h⟩
  have hexm : ∀ sz m c, hush (ms i).v ≠ .ex sz m c := fun sz m c e => by
    cases hv : (ms i).v <;> rw [hv] at e hx <;> simp [hush, isEx] at e hx
  obtain ⟨bk', I2, hl2, hbk⟩ := I'.putD hd (by rw [H.gr]; exact hf1) hf2' hm rfl hexm
  have hold : ∀ j, j < n → isOn listed j → (a.put (some (dOf i)) v).tmps[dOf j]? = a.tmps[dOf j]? := fun j hj hl => by rw [put_get hN, if_neg (hno j hj hl)]
  refine ⟨_, bk', I2, ⟨H.chain.1.trans (hf.bel.mono H.inv.hb), fun b o hb h => H.chain.2.1 b o hb (hf.old b o (Nat.lt_of_lt_of_le hb H.inv.hb) h), H.chain.2.2.1.trans hf.ko, fun k b e => (hbk k).trans (H.chain.2.2.2.1 k b e), fun b o v h1 h2 => by
    obtain ⟨h3, h4⟩ := H.chain.2.2.2.2.1 b o v h1 h2
    have hkp := hf.kp H.inv.prot
    exact ⟨hkp.pr b o h3, (hkp.cell b o h3).trans h4⟩, H.chain.2.2.2.2.2⟩, H.bx, H.gr, ?_, ?_, ?_, ?_⟩
  · intro j hj hl
    rw [look_putD, lookT_putD]
    rcases on_set hl with rfl | hl
    · rw [if_pos rfl, if_pos rfl]; exact ⟨rfl, rfl⟩
    · rw [if_neg (hno j hj hl), if_neg (hno j hj hl)]; exact H.on j hj hl
  · intro t ht
    have h1 : t ≠ dOf i := fun e => ht i hi (set_self (by omega)) e.symm
    rw [look_putD, lookT_putD, if_neg h1, if_neg h1]
    exact H.off t (fun j hj hl => ht j hj (set_on hl))
  · intro j cs s hj hl hv
    rcases on_set hl with rfl | hl
    · obtain ⟨b, h1, h2, h3, h4⟩ := hnew cs s hv
      refine ⟨b, ⟨⟨v, by rw [put_get hN, if_pos rfl], h1⟩, h3, Nat.le_trans H.inv.hb h2, h4⟩, fun x hx e => ?_⟩
      obtain ⟨h5, h6⟩ := hl2 x hx
      have := (H.inv.own x h5).2
      omega
    · obtain ⟨b, hn, hfr⟩ := H.new j cs s hj hl hv
      obtain ⟨c, T, vs, h1, hpre, h2, h3⟩ := hn.heap
      have hblt : b < w.heap.size := (Array.getElem?_eq_some_iff.1 h1).1
      obtain ⟨u, hu1, hu2⟩ := hn.at_
      refine ⟨b, ⟨⟨u, by rw [hold j hj hl]; exact hu1, hu2.mono (hf.heap hblt)⟩, ⟨c, T, vs, (hf.heap hblt).trans h1, hpre, RpL.mono (hf.kp H.inv.prot) h2, h3⟩, hn.lo, fun o h => hn.free o (hf.old b o hblt h)⟩, fun x hx e => ?_⟩
      obtain ⟨h5, h6⟩ := hl2 x hx
      exact hfr x h5 (h6 ▸ e)
  · intro p q cp cq sp sq hp hq hpq hlp hlq hvp hvq
    have fresh : ∀ j cj sj, j < n → isOn listed j → (ms j).v = .newp cj sj → ∀ ci si, (ms i).v = .newp ci si → (some v : Option Value).bind blkOf ≠ (a.tmps[dOf j]?).bind blkOf := by
      intro j cj sj hj hl hv ci si hvi e
      obtain ⟨b, h1, h2, _⟩ := hnew ci si hvi
      obtain ⟨b2, hn, _⟩ := H.new j cj sj hj hl hv
      obtain ⟨c, T, vs, h3, _⟩ := hn.heap
      have hblt : b2 < w.heap.size := (Array.getElem?_eq_some_iff.1 h3).1
      obtain ⟨u, hu1, hu2⟩ := hn.at_
      rw [hu1, Option.bind_some, Option.bind_some, h1.blk, hu2.blk] at e
      have e2 : b = b2 := Option.some.inj e
      omega
    rcases on_set hlp with e1 | hlp'
    · rcases on_set hlq with e2 | hlq'
      · exact absurd (e1.trans e2.symm) hpq
      · rw [hold q hq hlq', e1, put_get hN, if_pos rfl]
        exact fresh q cq sq hq hlq' hvq cp sp (e1 ▸ hvp)
    · rcases on_set hlq with e2 | hlq'
      · rw [hold p hp hlp', e2, put_get hN, if_pos rfl]
        exact fun e => fresh p cp sp hp hlp' hvp cq sq (e2 ▸ hvq) e.symm
      · rw [hold q hq hlq', hold p hp hlp']
        exact H.apart p q cp cq sp sq hp hq hpq hlp' hlq' hvp hvq
/-- A call whose answer is a new array. -/
theorem exMade_ok {call : Cl} (hC : CallOk P call) (I : Inv base w Pr bk sL a N) {o : Oper} {sT : St} {m : Made} (S : Sees o sT sL) (h : exMade call o sT = some m) (K : Act → World → Prop) (Q : Exit → Act → World → Prop)
    (hK : ∀ v w' Pr', Fw w Pr w' Pr' → MadeOk base w' Pr' bk sL a { v := hush m.v, gr := none, tg := m.tg } v → isEx m.v = false →
      (∀ cs s, m.v = .newp cs s → FreshV w w' Pr' v cs s) → K (a.put o.dst v) w') : o.wp P a w K Q := by
  unfold exMade at h
  split at h
  · rename_i f args ts ho
    split at h
    · simp at h
    · rename_i hout
      simp only [Option.bind_eq_some_iff] at h
      obtain ⟨as_, has, r, hr, h⟩ := h
      split at h
      · rename_i sz n cs z hv hz
        split at h
        · rename_i hcond
          obtain ⟨rfl, hlit⟩ := hcond
          simp only [Option.some.injEq] at h
          subst h
          obtain ⟨hbody, hcall⟩ := hC.fn f _ r hr
          obtain ⟨i1, i2⟩ := argsOf_sees (st' := sL) S.bx _ _ (fun x hx => S.ev x (by simp [ho, Op.operands, Call.operands]; exact .inr (by simpa using hx))) has
          have hany : ¬ (args.toList.any fun x => ((sL.ev x).map leadsOut).getD true) = true := by
            intro hh
            refine hout ?_
            simp only [List.any_eq_true] at hh ⊢
            obtain ⟨x, hx, h2⟩ := hh
            exact ⟨x, hx, by rw [← i2 x hx]; exact h2⟩
          have hargs := argsOf_rp0 I (by simpa using hany) i1
          have hge : a.eval (.func f) = .func (.func f) #[] #[] := rfl
          have hargs' := hargs.app (ds := []) (us := []) .nil
          rw [List.append_nil] at hargs'
          refine wp_enter (exec_call (cs := []) ho hge) hbody (hcall _ w Pr I.prot hargs') ?_
          rintro e w' ⟨v, Pr', rfl, hret⟩
          refine ⟨v, rfl, ?_⟩
          obtain ⟨b, o', n', cap, cs2, e1, e2, hroom, e3, e4, e5⟩ := hret.gr z hz
          rw [hv] at e1
          simp only [PV.sl.injEq, true_and] at e1
          obtain ⟨rfl, rfl⟩ := e1
          subst e3
          obtain ⟨PrN, hPN⟩ : ∃ PrN : Prot, ∀ b' o, PrN b' o ↔ (Pr' b' o ∧ b' ≠ b) := ⟨fun b' o => _, fun _ _ => Iff.rfl⟩
          have hf : Fw w Pr w' PrN := ⟨hret.fw.bel, fun b' o h => (hPN b' o).2 ⟨hret.fw.pr b' o h, fun e => by have := I.prot b' o h; omega⟩, fun b' o hlt h => hret.fw.old b' o hlt ((hPN b' o).1 h).1, fun b' o h => hret.fw.new b' o ((hPN b' o).1 h).1⟩
          obtain ⟨c, T, hb, hsz⟩ := hroom.there
          obtain ⟨vs, hrl, hone, hpre, hlen⟩ : ∃ vs, RpL w' PrN cs vs ∧ One vs ∧ vs <+: c.toList ∧ cs.length = n * z := by
            have hrp := hret.rp
            rw [hv, e2] at hrp
            cases hrp with
            | sl hr1 h1 hl hn hc hp => exact ⟨_, litP'_eq hlit hr1, h1, pre_of_range hb hc, hl⟩
          exact hK v w' PrN hf ⟨fun _ _ => trivial, fun _ _ _ e => by simp [hush] at e, fun z e => by simp at e, fun q e => by simp at e⟩ rfl (fun cs' s' e => by
            cases e
            exact ⟨b, ⟨cap, c, T, e2, hroom.hz, hroom.le, hlen, hb, by omega⟩, e4, ⟨c, T, vs, hb, hpre, hrl, hone⟩, fun o h => ((hPN b o).1 h).2 rfl⟩)
        · simp at h
      · simp at h
  · simp at h
/-- What an operation of the head owes, at the moment at which it runs. -/
theorem quietD_ok {call : Cl} (hC : CallOk P call) (I : Inv base w Pr bk sL a N) {o : Oper} {sT : St} {m : Made} (S : Sees o sT sL) (h : quietD P call o sT = some m) (K : Act → World → Prop) (Q : Exit → Act → World → Prop)
    (hK : ∀ v w' Pr', Fw w Pr w' Pr' → MadeOk base w' Pr' bk sL a { v := hush m.v, gr := none, tg := m.tg } v → isEx m.v = false →
      (∀ cs s, m.v = .newp cs s → FreshV w w' Pr' v cs s) → K (a.put o.dst v) w') : o.wp P a w K Q := by
  have asg : ∀ x av, o.op = .assign x → sT.ev x = some av → (∀ cs s, av ≠ .newp cs s) → isEx av = false → m = { v := av } → o.wp P a w K Q := by
    intro x av ho he hn hx hm
    have he' := S.ev x (by simp [ho, Op.operands]) av he hn
    have hrun : (execOp a.eval o).run P w = .ok (.value (a.eval x)) w := by simp [execOp, ho]
    refine wp_value hrun (hK _ _ _ (Fw.refl I.prot) ?_ (by rw [hm]; exact hx) (fun cs s e => by rw [hm] at e; exact absurd e (hn cs s)))
    obtain ⟨t, hr⟩ := ev_rp I he'
    have hh : hush av = av := by cases av <;> first | rfl | exact absurd rfl (hn _ _)
    rw [hm, hh]
    exact madeOk_av (fun sz n cs e => by subst e; simp [isEx] at hx) hr
  have other : ∀ m0, quiet P call o sT = some m0 → isEx m0.v = false → m = { m0 with gr := none } → o.wp P a w K Q := by
    intro m0 hq hx hm
    refine quiet_ok hC I (quiet_sees S hq) K Q fun v w' Pr' hf hmo => ?_
    have hnx : ∀ sz n cs, m0.v ≠ .ex sz n cs := fun sz n cs e => by rw [e] at hx; simp [isEx] at hx
    have hnn : ∀ cs s, m0.v ≠ .newp cs s := fun cs s e => by have := hmo.val hnx 0; rw [e] at this; exact this
    have hh : hush m0.v = m0.v := by cases e : m0.v <;> first | rfl | exact absurd e (hnn _ _)
    subst hm
    refine hK v w' Pr' hf ⟨fun h t => by simp only [hh] at h ⊢; exact hmo.val h t, fun sz n cs e => by simp only [hh] at e; exact absurd e (hnx sz n cs), fun z e => by simp at e, hmo.tg⟩ hx (fun cs s e => absurd e (hnn cs s))
  unfold quietD at h
  split at h
  · exact exMade_ok hC I S h K Q hK
  split at h
  · rename_i x ho
    split at h
    · rename_i p he; simp only [Option.some.injEq] at h; exact asg x _ ho he (by simp) rfl h.symm
    · rename_i k off he; simp only [Option.some.injEq] at h; exact asg x _ ho he (by simp) rfl h.symm
    · rename_i f caps he; simp only [Option.some.injEq] at h; exact asg x _ ho he (by simp) rfl h.symm
    · simp at h
  · rename_i t ho
    simp only [Option.map_eq_some_iff] at h
    obtain ⟨z, hz, rfl⟩ := h
    obtain ⟨i, zv, hi, hzv, hzr⟩ := zeroT_rp (w := w) (Pr := Pr) hz
    obtain ⟨hc1, hc2⟩ := hzr.cells_rp (notTup_ne (zeroT_notTup hz))
    have hf := fw_alloc0 I (.cells zv.cells t)
    have he : (execOp a.eval o).run P w = .ok (.value (.pointer (some ⟨w.heap.size, 0, none⟩))) (w.alloc (.cells zv.cells t)) := by
      simp only [execOp, ho]
      refine run_v ?_
      simp [Instr.alloc, zeroValue, typeInfo, hi, hzv, run_newVar]
    have hk := hK (.pointer (some ⟨w.heap.size, 0, none⟩)) _ _ hf ⟨fun _ _ => trivial, fun _ _ _ e => by simp [hush] at e, fun z e => by simp at e, fun q e => by simp at e⟩ rfl (fun cs s e => by
      cases e
      refine ⟨w.heap.size, rfl, Nat.le_refl _, ⟨zv.cells, t, zv.cells.toList, by rw [heap_alloc], List.prefix_refl _, RpL.mono (hf.kp I.prot) hc1, hc2⟩, fun o h => by have := I.prot _ _ h; omega⟩)
    unfold Oper.wp
    rw [he]
    exact hk
  · simp only [Option.bind_eq_some_iff] at h
    obtain ⟨m0, hm0, h⟩ := h
    split at h
    · simp at h
    · rename_i hx
      simp only [Option.some.injEq] at h
      exact other m0 hm0 (by simpa using hx) h.symm
end
end Go.Proofs.YtibbgjafjhcemaaDoor.Cul
/-! M21 -/
set_option linter.unusedVariables false
set_option linter.unusedSimpArgs false
namespace Go.Proofs.YtibbgjafjhcemaaDoor.Cul
open Go Go.RowKit
section
variable {P : Program} {base : Nat} {w w0 : World} {Pr Pr0 : Prot} {bk : Key → Nat} {st sL : St} {a : Act} {N n : Nat} {dOf : Nat → Nat} {ms : Nat → Made} {sT : Nat → St} {listed : Array Bool} {ops : Array Oper} {call : Cl} {pin : Pins}
theorem bindsOn_spec {o : Oper} {j : Nat} (h : bindsOn o j = true) : ∃ e ∈ o.after, Region.binds .any e = true ∧ e.on = j := by
  unfold bindsOn at h
  obtain ⟨e, he, hb⟩ := Array.any_eq_true'.1 h
  simp only [Bool.and_eq_true, beq_iff_eq] at hb
  exact ⟨e, he, hb⟩
theorem okDeps_spec {l : List Oper} {i : Nat} {o : Oper} (h : okDeps l n i o = true) :
    (∀ g want, o.guard = some (g, want) → g < i ∧ bindsOn o g = true) ∧ (∀ e ∈ o.after, Region.binds .any e = true → e.on < i) ∧
    ∀ j, j < n → ∀ oj d, l[j]? = some oj → oj.dst = some d → (d ∈ tmpsOf o → (j < i ∧ bindsOn o j = true) ∨ (i < j ∧ bindsOn oj i = true) ∨ j = i) ∧ (j = i ∨ o.dst ≠ some d) := by
  simp only [okDeps, Bool.and_eq_true] at h
  obtain ⟨⟨h1, h2⟩, h3⟩ := h
  refine ⟨fun g want e => ?_, fun e he hb => ?_, fun j hj oj d hoj hd => ?_⟩
  · rw [e] at h1; simpa using h1
  · have := Array.all_eq_true'.1 h2 e he
    simp only [Bool.or_eq_true, Bool.not_eq_true', decide_eq_true_eq] at this
    rcases this with this | this
    · rw [hb] at this; simp at this
    · exact this
  · have := List.all_eq_true.1 h3 j (List.mem_range.2 hj)
    simp only [hoj, Option.bind_some, hd, Bool.and_eq_true, Bool.or_eq_true, Bool.not_eq_true', decide_eq_true_eq, beq_iff_eq, bne_iff_ne] at this
    obtain ⟨h4, h5⟩ := this
    refine ⟨fun hm => ?_, h5⟩
    rcases h4 with ((h4 | h4) | h4) | h4
    · rw [List.contains_eq_mem] at h4; simp [hm] at h4
    · exact .inl h4
    · exact .inr (.inl h4)
    · exact .inr (.inr h4)
theorem mem_tmpsOf {o : Oper} {t : Nat} (h : Operand.tmp t ∈ o.op.operands.toList) : t ∈ tmpsOf o := by
  unfold tmpsOf
  exact List.mem_filterMap.2 ⟨_, h, rfl⟩
theorem sees_of (T : Told P call ops.toList st n dOf ms sT) (H : JJ base w0 Pr0 N pin st n dOf ms listed a w sL Pr bk) {i : Nat} (hi : i < n) {o : Oper} (ho : ops[i]? = some o) (hdep : okDeps ops.toList n i o = true)
    (hready : ∀ e ∈ o.after, Region.binds .any e = true → isOn listed e.on) (inv : HeadInv .any ops n listed) (hnot : ¬ isOn listed i) (hmx : ∀ j, j < n → isEx (ms j).v = false) (hfresh : ∀ j, j < n → ¬ exAt st (dOf j)) :
    Sees o (sT i) sL := by
  obtain ⟨hg, ha, hdeps⟩ := okDeps_spec hdep
  have hin : i ≤ n := Nat.le_of_lt hi
  have near : ∀ t, t ∈ tmpsOf o → (∃ j, j < i ∧ dOf j = t ∧ isOn listed j) ∨ ((∀ j, j < i → dOf j ≠ t) ∧ ∀ j, j < n → isOn listed j → dOf j ≠ t) := by
    intro t ht
    have hd : ∀ j, j < n → dOf j = t → (j < i ∧ isOn listed j) ∨ (¬ j < i ∧ ¬ isOn listed j) := by
      intro j hj e
      obtain ⟨oj, hoj, hdj⟩ := T.dst j hj
      rcases (hdeps j hj oj (dOf j) hoj hdj).1 (e ▸ ht) with ⟨h1, h2⟩ | ⟨h1, h2⟩ | h1
      · obtain ⟨e', he, hb, hon⟩ := bindsOn_spec h2
        exact .inl ⟨h1, hon ▸ hready e' he hb⟩
      · obtain ⟨e', he, hb, hon⟩ := bindsOn_spec h2
        refine .inr ⟨by omega, fun hl => hnot ?_⟩
        have := inv.closed j oj (by simpa using hoj) hl e' he hb
        rw [hon] at this; exact this
      · subst h1; exact .inr ⟨by omega, hnot⟩
    by_cases h : ∃ j, j < i ∧ dOf j = t
    · obtain ⟨j, hj, e⟩ := h
      rcases hd j (by omega) e with ⟨_, hl⟩ | ⟨hc, _⟩
      · exact .inl ⟨j, hj, e, hl⟩
      · exact absurd hj hc
    · refine .inr ⟨fun j hj e => h ⟨j, hj, e⟩, fun j hj hl e => ?_⟩
      rcases hd j hj e with ⟨h1, _⟩ | ⟨_, h2⟩
      · exact h ⟨j, h1, e⟩
      · exact h2 hl
  constructor
  · intro x hx av he hn
    cases x with
    | tmp t =>
      simp only [St.ev] at he ⊢
      rcases near t (mem_tmpsOf hx) with ⟨j, hj, e, hl⟩ | ⟨h1, h2⟩
      · have h3 := (T.done i hin j hj).1
        rw [e, he] at h3
        have h4 := (H.on j (by omega) hl).1
        rw [e] at h4
        have h5 : (ms j).v = av := (Option.some.inj h3).symm
        rw [h4, h5]
        cases av <;> first | rfl | exact absurd rfl (hn _ _)
      · rw [(T.rest i hin t h1).1] at he
        rw [(H.off t h2).1]; exact he
    | const v => exact he
    | func f => exact he
    | global g => exact he
  · intro u sz m c he
    have hne : ∀ j, j < i → dOf j ≠ u := by
      intro j hj e
      have h3 := (T.done i hin j hj).1
      rw [e, he] at h3
      have := hmx j (by omega)
      rw [← Option.some.inj h3] at this
      simp [isEx] at this
    rw [(T.rest i hin u hne).1] at he
    have hne2 : ∀ j, j < n → isOn listed j → dOf j ≠ u := fun j hj _ e => hfresh j hj ⟨sz, m, c, e ▸ he⟩
    rw [(H.off u hne2).1]; exact he
  · rw [H.bx, (T.bx i hin).1]
  · rw [H.gr, (T.bx i hin).2]
  · intro t hx
    rcases near t (mem_tmpsOf hx) with ⟨j, hj, e, hl⟩ | ⟨h1, h2⟩
    · have h3 := (T.done i hin j hj).2
      have h4 := (H.on j (by omega) hl).2
      rw [e] at h3 h4
      simp only [St.tag]; rw [h3, h4]
    · simp only [St.tag]
      rw [(T.rest i hin t h1).2, (H.off t h2).2]
theorem wanted_sees (T : Told P call ops.toList st n dOf ms sT) (H : JJ base w0 Pr0 N pin st n dOf ms listed a w sL Pr bk) {i : Nat} (hi : i < n) {o : Oper} (hdep : okDeps ops.toList n i o = true)
    (hready : ∀ e ∈ o.after, Region.binds .any e = true → isOn listed e.on) {b : Bool} (h : aWanted ops.toList o (sT i) = some b) : aWanted ops.toList o sL = some b := by
  obtain ⟨hg, _, _⟩ := okDeps_spec hdep
  unfold aWanted at h ⊢
  cases hgd : o.guard with
  | none => rw [hgd] at h; exact h
  | some g =>
    obtain ⟨j, want⟩ := g
    obtain ⟨hji, hb⟩ := hg j want hgd
    obtain ⟨e, he, hbb, hon⟩ := bindsOn_spec hb
    have hl : isOn listed j := hon ▸ hready e he hbb
    obtain ⟨oj, hoj, hdj⟩ := T.dst j (by omega)
    simp only [hgd, hoj, Option.bind_some, hdj] at h ⊢
    have h3 := (T.done i (Nat.le_of_lt hi) j hji).1
    have h4 := (H.on j (by omega) hl).1
    rw [h3] at h
    rw [h4]
    split at h
    · rename_i c hc; rw [Option.some.inj hc]; exact h
    · rename_i hc; rw [Option.some.inj hc]; exact h
    · simp at h
def cnt (n : Nat) (listed : Array Bool) : Nat := ((List.range n).filter fun j => !listed.getD j false).length
theorem cnt_zero (h : cnt n listed = 0) : ∀ j, j < n → isOn listed j := by
  intro j hj
  have := List.eq_nil_of_length_eq_zero h
  have h2 := List.filter_eq_nil_iff.1 this j (List.mem_range.2 hj)
  unfold isOn
  cases e : listed.getD j false with
  | true => rfl
  | false => exact absurd (by rw [e]; rfl) h2
theorem cnt_succ {f : Nat} (h : cnt n listed = f + 1) : ∃ j, j < n ∧ ¬ isOn listed j := by
  cases hl : (List.range n).filter fun j => !listed.getD j false with
  | nil => unfold cnt at h; rw [hl] at h; simp at h
  | cons j l =>
    have : j ∈ (List.range n).filter fun j => !listed.getD j false := by rw [hl]; simp
    obtain ⟨h1, h2⟩ := List.mem_filter.1 this
    refine ⟨j, List.mem_range.1 h1, fun e => ?_⟩
    unfold isOn at e; rw [e] at h2; simp at h2
theorem cnt_set {i f : Nat} (hi : i < n) (hsz : n ≤ listed.size) (hoff : ¬ isOn listed i) (h : cnt n listed = f + 1) : cnt n (listed.setIfInBounds i true) = f := by
  have h1 : ((List.range n).filter fun j => !(listed.setIfInBounds i true).getD j false) = ((List.range n).filter fun j => !listed.getD j false).erase i := by
    rw [List.Nodup.erase_eq_filter ((List.nodup_range).filter _), List.filter_filter]
    apply List.filter_congr
    intro j hj
    by_cases e : i = j
    · subst e
      have := set_self (listed := listed) (i := i) (by omega)
      unfold isOn at this
      rw [this]; simp
    · rw [getD_set_ne false e]
      have : (j != i) = true := by simpa using Ne.symm e
      rw [this]; simp
  have h2 : i ∈ (List.range n).filter fun j => !listed.getD j false := by
    refine List.mem_filter.2 ⟨List.mem_range.2 hi, ?_⟩
    unfold isOn at hoff
    simpa using hoff
  unfold cnt at h ⊢
  rw [h1, List.length_erase_of_mem h2, h]; rfl
theorem wpAnyIn_seq {F : Fence} {m : Nat} {Q' : Exit → Act → World → Prop} : ∀ (l : List Oper) (k : Nat) (listed : Array Bool) (a : Act) (w : World), (∀ j, l[j]? = ops[k + j]?) → Region.seqB .any ops l.length k listed = true → wpListIn F m P ops Q' l a w → wpAnyIn F m P .any ops Q' l.length listed a w
  | [], _, _, _, _, _, hB, h => ⟨by simpa [Region.seqB] using hB, h⟩
  | o :: l, k, listed, a, w, hl, hB, h => by
    have h0 : ops[k]? = some o := by have := hl 0; simpa using this.symm
    simp only [List.length_cons, Region.seqB, Bool.and_eq_true, decide_eq_true_eq] at hB
    obtain ⟨hr, hB⟩ := hB
    refine ⟨fun h1 => absurd h1 (by rw [hr]; simp), fun i hi => ?_⟩
    rw [hr] at hi
    obtain rfl : i = k := by simpa using hi
    have hw : wpOpIn F m P ops Q' i (wpListIn F m P ops Q' l) a w := by unfold wpOpIn; rw [h0]; exact h
    exact wpOpIn_mono (fun a' w' h' => wpAnyIn_seq l (i + 1) _ a' w' (fun j => by have := hl (j + 1); rw [List.getElem?_cons_succ] at this; rw [this]; congr 1; omega) hB h') hw
theorem quietD_notDefer {o : Oper} {m : Made} (h : quietD P call o st = some m) : ∀ c, o.op ≠ .defer c := by
  intro c ho
  simp [quietD, ho, quiet, exD] at h
theorem any_ok {F : Fence} (E : Easy F) (m : Nat) (hC : CallOk P call) {Q : Exit → Act → World → Prop} (T : Told P call ops.toList st n dOf ms sT) (hn : n < ops.size) (hs : Region.sinkB .any ops n = true) (hc : Region.chainB .any ops n = true) (hq : Region.seqB .any ops (ops.size - n) n (listedTo ops.size n) = true)
    (hdep : ∀ i o, i < n → ops[i]? = some o → okDeps ops.toList n i o = true) (hinj : ∀ i j, i < n → j < n → dOf i = dOf j → i = j) (hd : ∀ i, i < n → dOf i < N)
    (hf1 : ∀ i, i < n → lookP st.gr (.s (dOf i)) = none) (hf2 : ∀ i, i < n → ¬ exAt st (dOf i)) (hmx : ∀ j, j < n → isEx (ms j).v = false)
    (hEnd : ∀ listed a w sL Pr bk, (∀ j, j < n → isOn listed j) → JJ base w0 Pr0 N pin st n dOf ms listed a w sL Pr bk → wpListIn F m P ops Q (ops.toList.drop n) a w) :
    ∀ (f : Nat) (listed : Array Bool) (a : Act) (w : World) (sL : St) (Pr : Prot) (bk : Key → Nat), cnt n listed = f → HeadInv .any ops n listed → JJ base w0 Pr0 N pin st n dOf ms listed a w sL Pr bk → wpAnyIn F m P .any ops Q (f + (ops.size - n)) listed a w
  | 0, listed, a, w, sL, Pr, bk, hcnt, inv, H => by
    have hall := cnt_zero hcnt
    have hl : listed = listedTo ops.size n := by
      apply Array.ext_getElem?
      intro i
      have hsz := inv.size
      unfold listedTo
      simp only [List.getElem?_toArray, List.getElem?_map]
      by_cases h : i < ops.size
      · rw [List.getElem?_range h]
        simp only [Option.map_some]
        have hlt : i < listed.size := by omega
        rw [Array.getElem?_eq_getElem hlt]
        congr 1
        by_cases hin : i < n
        · have := hall i hin
          unfold isOn at this
          simp [hlt] at this
          simp [this, hin]
        · have := inv.tail i (by omega) h
          simp [hlt] at this
          simp [this, hin]
      · rw [Array.getElem?_eq_none (by omega), List.getElem?_eq_none (by simp; omega)]; rfl
    have hlen : (ops.toList.drop n).length = ops.size - n := by simp
    have := wpAnyIn_seq (F := F) (m := m) (P := P) (Q' := Q) (ops.toList.drop n) n listed a w (fun j => by simp [List.getElem?_drop]) (by rw [hlen, hl]; exact hq) (hEnd listed a w sL Pr bk hall H)
    rw [hlen] at this
    rw [Nat.zero_add]; exact this
  | f + 1, listed, a, w, sL, Pr, bk, hcnt, inv, H => by
    obtain ⟨i0, hi0, hoff0⟩ := cnt_succ hcnt
    have hsz : n ≤ listed.size := by rw [inv.size]; omega
    have hun : ∀ i, i < n → ¬ isOn listed i → listed.getD i true = false := fun i hi ho => getD_in (by omega) (by unfold isOn at ho; simpa using ho)
    have hne : ∀ d i, i = d → i < n → ¬ isOn listed i → Region.ready .any ops listed ≠ [] := by
      intro d
      induction d using Nat.strongRecOn with
      | _ d ih =>
        intro i hid hi ho
        subst hid
        obtain ⟨o, ho', _⟩ := T.dst i hi
        have ho2 : ops[i]? = some o := by simpa using ho'
        by_cases hall : ∀ e ∈ o.after, Region.binds .any e = true → listed.getD e.on false = true
        · have : i ∈ Region.ready .any ops listed := mem_ready.2 ⟨hun i hi ho, o, ho2, hall⟩
          exact fun h => by rw [h] at this; simp at this
        · have : ∃ e, e ∈ o.after ∧ Region.binds .any e = true ∧ ¬ listed.getD e.on false = true := by
            apply Classical.byContradiction
            intro hno
            exact hall fun e he hb => Classical.byContradiction fun hl => hno ⟨e, he, hb, hl⟩
          obtain ⟨e, he, hb, hl⟩ := this
          have hlt := (okDeps_spec (hdep i o hi ho2)).2.1 e he hb
          exact ih e.on hlt e.on rfl (by omega) hl
    rw [show f + 1 + (ops.size - n) = (f + (ops.size - n)) + 1 by omega]
    refine ⟨fun h => absurd h (hne i0 i0 rfl hi0 hoff0), fun i hi => ?_⟩
    have hin : i < n := by
      rcases Nat.lt_or_ge i n with h | h
      · exact h
      · exact absurd hi (tail_waits hs hc hn inv _ i0 rfl hi0 (hun i0 hi0 hoff0) i h)
    obtain ⟨hgt, o, ho, hall⟩ := mem_ready.1 hi
    have hoff : ¬ isOn listed i := by unfold isOn; rw [getD_both hgt]; simp
    have hS := sees_of T H hin ho (hdep i o hin ho) hall inv hoff hmx hf2
    obtain ⟨b, hb, hbt, hbf⟩ := T.step i hin o (by simpa using ho)
    have hw := wanted_eq (ops := ops) H.inv (wanted_sees T H hin (hdep i o hin ho) hall hb)
    have hdo : o.dst = some (dOf i) := by
      obtain ⟨o2, ho2, hd2⟩ := T.dst i hin
      have : o2 = o := by
        have h3 : ops[i]? = some o2 := by simpa using ho2
        rw [ho] at h3; exact (Option.some.inj h3).symm
      rw [← this]; exact hd2
    have go : ∀ v w' Pr', Fw w Pr w' Pr' → MadeOk base w' Pr' bk sL a { v := hush (ms i).v, gr := none, tg := (ms i).tg } v →
      (∀ cs s, (ms i).v = .newp cs s → FreshV w w' Pr' v cs s) →
      wpAnyIn F m P .any ops Q (f + (ops.size - n)) (listed.setIfInBounds i true) (a.put o.dst v) w' := by
      intro v w' Pr' hf hm hnew
      obtain ⟨sL', bk', H'⟩ := H.next hin hsz hoff hinj (hd i hin) (hf1 i hin) (hf2 i hin) hf hm (hmx i hin) hnew
      rw [hdo]
      exact any_ok E m hC T hn hs hc hq hdep hinj hd hf1 hf2 hmx hEnd f _ _ _ _ _ _ (cnt_set hin hsz hoff hcnt) (inv.set hi hin) H'
    unfold wpOpIn
    simp only [ho]
    rw [hw]
    cases b with
    | true =>
      simp only [if_true]
      exact oper_in E (quietD_notDefer (hbt rfl)) (quietD_ok hC H.inv hS (hbt rfl) _ Q fun v w' Pr' hf hm hx hnew => go v w' Pr' hf hm hnew)
    | false =>
      simp only [Bool.false_eq_true, if_false]
      have he := hbf rfl
      refine ⟨fun f _ => E.fn f, ?_⟩
      refine go undef w Pr (Fw.refl H.inv.prot) ?_ (fun cs s e => by rw [he] at e; simp [undefA] at e)
      rw [he]
      exact madeOk_pv (Rp.tup .nil)
end
end Go.Proofs.YtibbgjafjhcemaaDoor.Cul
/-! M22 -/
set_option linter.unusedVariables false
set_option linter.unusedSimpArgs false
namespace Go.Proofs.YtibbgjafjhcemaaDoor.Cul
open Go Go.RowKit
def hushX (x : Nat × AV) : Nat × AV := (x.1, hush x.2)
def hushSt (s : St) : St := { s with sl := s.sl.map hushX }
theorem look_hush (s : St) (t : Nat) : look (hushSt s).sl t = (look s.sl t).map hush := look_map hushX (fun _ v => hush v) (fun _ => rfl) s.sl t
theorem drop1_map {α β : Type} (f : Nat × α → Nat × β) (hf : ∀ x, (f x).1 = x.1) (d : Nat) : ∀ l : List (Nat × α), drop1 (l.map f) d = (drop1 l d).map f
  | [] => rfl
  | x :: l => by
    have h := hf x
    cases hx : f x with
    | mk k v =>
      rw [hx] at h
      obtain ⟨k', v'⟩ := x
      simp only at h; subst h
      simp only [List.map_cons, hx, drop1, drop1_map f hf d l]
      split <;> simp [hx]
theorem hush_kill (d : Nat) (x : Nat × AV) : killA d (hushX x) = hushX (killA d x) := by
  obtain ⟨k, v⟩ := x
  have h1 : refersTo d (hush v) = refersTo d v := by cases v <;> rfl
  show (k, if refersTo d (hush v) = true then AV.dead else hush v) = (k, hush (if refersTo d v = true then AV.dead else v))
  rw [h1]
  by_cases h : refersTo d v = true
  · rw [if_pos h, if_pos h]; rfl
  · rw [if_neg h, if_neg h]
theorem hush_put (s : St) (d : Nat) (v : AV) (hv : hush v = v) : (hushSt s).put (some d) v = hushSt (s.put (some d) v) := by
  simp only [St.put, hushSt, List.map_cons, St.mk.injEq, and_true, true_and]
  rw [drop1_map hushX (fun _ => rfl)]
  simp only [List.map_map]
  have e0 := hush_kill d (d, v)
  have e1 : hushX (d, v) = (d, v) := by simp [hushX, hv]
  rw [e1] at e0
  rw [← e0]
  congr 1
  apply List.map_congr_left
  intro x _
  exact hush_kill d x
theorem noPtr_hush (d : Nat) (v : AV) : noPtr d (hush v) = noPtr d v := by cases v <;> rfl
theorem hush_newBox {s s' : St} {d : Nat} {cs : List PV} {v : AV} (hv : hush v = v) (h : s.newBoxA d cs v = some s') : (hushSt s).newBoxA d cs v = some (hushSt s') ∧ s'.sl = (s.put (some d) v).sl := by
  simp only [St.newBoxA] at h ⊢
  rw [hush_put s d v hv]
  have e : (drop1 (hushSt (s.put (some d) v)).sl d).all (fun x => noPtr d x.2) = (drop1 (s.put (some d) v).sl d).all (fun x => noPtr d x.2) := by
    simp only [hushSt]
    rw [drop1_map hushX (fun _ => rfl), List.all_map]
    congr 1
    funext x
    exact noPtr_hush d x.2
  rw [e]
  split at h
  · rename_i hc
    rw [if_pos hc]
    simp only [Option.some.injEq] at h
    subst h
    exact ⟨rfl, rfl⟩
  · simp at h
section
variable {P : Program} {base : Nat} {w w0 : World} {Pr Pr0 : Prot} {bk : Key → Nat} {st sL : St} {a : Act} {N n : Nat} {dOf : Nat → Nat} {ms : Nat → Made} {sT : Nat → St} {listed : Array Bool} {ops : Array Oper} {call : Cl} {pin : Pins}
/-- A frame with new variables that are not told yet. -/
def avFor (d : Nat) : Option (Nat × Nat) → AV
  | none => .bp d 0
  | some (sz, n) => .bs d 0 sz n
structure SS (base : Nat) (w : World) (Pr : Prot) (bk : Key → Nat) (s : St) (a : Act) (N : Nat) : Prop where
  inv : Inv base w Pr bk (hushSt s) a N
  new : ∀ t cs p, look s.sl t = some (.newp cs p) → ∃ b, NewAt base a w Pr t b cs p ∧ ∀ x, live (hushSt s) x → bk x ≠ b
  apart : ∀ t u cs ds p q, t ≠ u → look s.sl t = some (.newp cs p) → look s.sl u = some (.newp ds q) → (a.tmps[t]?).bind blkOf ≠ (a.tmps[u]?).bind blkOf
theorem SS.box {s s' : St} (H : SS base w Pr bk s a N) {d : Nat} {cs : List PV} {sp : Option (Nat × Nat)} (hd : look s.sl d = some (.newp cs sp)) (h : s.newBoxA d cs (avFor d sp) = some s') :
    (∃ bk', SS base w Pr bk' s' a N ∧ ∀ k, k ≠ d → bk' (.bx k) = bk (.bx k)) ∧ ∀ t ds p, look s'.sl t = some (.newp ds p) → t ≠ d ∧ look s.sl t = some (.newp ds p) := by
  have hav : refersTo d (avFor d sp) = false := by cases sp <;> rfl
  obtain ⟨h1, h2⟩ := hush_newBox (by cases sp <;> rfl) h
  obtain ⟨b, hn, hfr⟩ := H.new d cs sp hd
  obtain ⟨c, T, vs, e1, hpre, e2, e3⟩ := hn.heap
  obtain ⟨u, hu1, hu2⟩ := hn.at_
  have hdN : d < N := by rw [← H.inv.size]; exact (Array.getElem?_eq_some_iff.1 hu1).1
  obtain ⟨bk', I', hl, hbk⟩ := H.inv.newBoxA (av0 := avFor d sp) (v0 := u) hdN e1 hpre hn.lo hfr hn.free e2 e3 hav (by cases sp <;> simp [avFor]) (fun st2 a2 bk2 t k1 k2 => by
    cases sp with
    | none => have hu : u = .pointer (some ⟨b, 0, none⟩) := hu2; subst hu; simp only [avFor, RpA]; rw [k2]
    | some x =>
      obtain ⟨sz, m⟩ := x
      obtain ⟨cap, c', T', g1, g2, g3, g4, g5, g6⟩ := hu2
      exact ⟨0, cap, _, c', T', by rw [k2]; exact g1, .inl rfl, k1, by omega, g2, g3, by rw [k2]; exact g5, by omega⟩) h1
  rw [put_same hu1] at I'
  have hnp : ∀ t ds p, look s'.sl t = some (.newp ds p) → t ≠ d ∧ look s.sl t = some (.newp ds p) := by
    intro t ds p ht
    rw [h2, look_put] at ht
    by_cases e : t = d
    · rw [if_pos e] at ht; cases sp <;> simp [avFor, refersTo] at ht
    · rw [if_neg e] at ht
      refine ⟨e, ?_⟩
      cases hq : look s.sl t with
      | none => simp [hq] at ht
      | some x =>
        simp only [hq, Option.map_some, Option.some.injEq] at ht
        split at ht
        · simp at ht
        · rw [ht]
  refine ⟨⟨bk', ⟨I', fun t ds p ht => ?_, fun t u ds es p q htu ht hu => H.apart t u ds es p q htu (hnp t ds p ht).2 (hnp u es q hu).2⟩, hbk⟩, hnp⟩
  obtain ⟨htd, ht'⟩ := hnp t ds p ht
  obtain ⟨b', hn', hfr'⟩ := H.new t ds p ht'
  refine ⟨b', hn', fun x hx => ?_⟩
  rcases hl x hx with ⟨_, e⟩ | ⟨hx', e⟩
  · rw [e]
    intro eb
    refine H.apart t d ds cs p sp htd ht' hd ?_
    obtain ⟨u', hu1', hu2'⟩ := hn'.at_
    rw [hu1', hu1, Option.bind_some, Option.bind_some, hu2.blk, hu2'.blk, eb]
  · rw [e]; exact hfr' x hx'
theorem settle_ok : ∀ (l : List Oper) {s s2 : St} {bk : Key → Nat}, SS base w Pr bk s a N → (∀ t cs p, look s.sl t = some (.newp cs p) → ∃ o ∈ l, o.dst = some t) → s.settle l = some s2 → ∃ bk', Inv base w Pr bk' s2 a N ∧ ∀ k, (∀ o ∈ l, o.dst ≠ some k) → bk' (.bx k) = bk (.bx k)
  | [], s, s2, bk, H, hn, h => by
    simp only [St.settle, Option.some.injEq] at h
    subst h
    have hh : ∀ t, look (hushSt s).sl t = look s.sl t := by
      intro t
      rw [look_hush]
      cases e : look s.sl t with
      | none => rfl
      | some v =>
        cases v with
        | newp cs p => obtain ⟨o, ho, _⟩ := hn t cs p e; simp at ho
        | _ => rfl
    refine ⟨bk, H.inv.less (fun t av ht => .inl ((hh t).trans ht)) (fun k cs hk => hk) (fun p z hp => ⟨hp, ?_⟩) (fun t q h => h) (fun t u _ hx => ?_) (fun _ _ _ _ _ _ e => e), fun _ _ => rfl⟩
    · cases p with
      | s t => exact (hh t).symm
      | c k o => rfl
    · obtain ⟨sz, m, c, hx⟩ := hx
      exact ⟨sz, m, c, (hh u).symm.trans hx⟩
  | o :: l, s, s2, bk, H, hn, h => by
    simp only [St.settle, Option.bind_eq_some_iff] at h
    obtain ⟨s1, h1, h⟩ := h
    unfold St.settle1 at h1
    have go : ∀ {d : Nat} (hd : o.dst = some d) {cs : List PV} {sp : Option (Nat × Nat)} (hcs : look s.sl d = some (.newp cs sp)) (h1 : s.newBoxA d cs (avFor d sp) = some s1), ∃ bk', Inv base w Pr bk' s2 a N ∧ ∀ k, (∀ o' ∈ o :: l, o'.dst ≠ some k) → bk' (.bx k) = bk (.bx k) := by
        intro d hd cs sp hcs h1
        obtain ⟨⟨bk', H', hbk⟩, hnp⟩ := H.box hcs h1
        obtain ⟨bk2, I2, hb2⟩ := settle_ok l H' (fun t ds p ht => by
          obtain ⟨htd, ht'⟩ := hnp t ds p ht
          obtain ⟨o', ho', hd'⟩ := hn t ds p ht'
          rcases List.mem_cons.1 ho' with rfl | ho'
          · rw [hd] at hd'; exact absurd (Option.some.inj hd').symm htd
          · exact ⟨o', ho', hd'⟩) h
        exact ⟨bk2, I2, fun k hk => (hb2 k (fun o' ho' => hk o' (List.mem_cons_of_mem _ ho'))).trans (hbk k (fun e => hk o (by simp) (by rw [hd, e])))⟩
    split at h1
    · rename_i d hd
      split at h1
      · rename_i cs hcs; exact go hd hcs h1
      · rename_i cs sz m hcs; exact go hd hcs h1
      · rename_i hno1 hno2
        simp only [Option.some.injEq] at h1; subst h1
        obtain ⟨bk2, I2, hb2⟩ := settle_ok l H (fun t ds p ht => by
          obtain ⟨o', ho', hd'⟩ := hn t ds p ht
          rcases List.mem_cons.1 ho' with rfl | ho'
          · rw [hd] at hd'
            rw [Option.some.inj hd'] at hno1 hno2
            cases p with
            | none => exact absurd ht (hno1 ds)
            | some x => exact absurd ht (hno2 ds x.1 x.2)
          · exact ⟨o', ho', hd'⟩) h
        exact ⟨bk2, I2, fun k hk => hb2 k (fun o' ho' => hk o' (List.mem_cons_of_mem _ ho'))⟩
    · rename_i hd
      simp only [Option.some.injEq] at h1; subst h1
      obtain ⟨bk2, I2, hb2⟩ := settle_ok l H (fun t ds p ht => by
        obtain ⟨o', ho', hd'⟩ := hn t ds p ht
        rcases List.mem_cons.1 ho' with rfl | ho'
        · rw [hd] at hd'; simp at hd'
        · exact ⟨o', ho', hd'⟩) h
      exact ⟨bk2, I2, fun k hk => hb2 k (fun o' ho' => hk o' (List.mem_cons_of_mem _ ho'))⟩
/-- All of the head has run. -/
theorem JJ.done (T : Told P call ops.toList st n dOf ms sT) (H : JJ base w0 Pr0 N pin st n dOf ms listed a w sL Pr bk) (hall : ∀ j, j < n → isOn listed j) (hinj : ∀ i j, i < n → j < n → dOf i = dOf j → i = j) : SS base w Pr bk (sT n) a N ∧ ∀ t cs p, look (sT n).sl t = some (.newp cs p) → ∃ j, j < n ∧ dOf j = t := by
  have hlk : ∀ t, look (hushSt (sT n)).sl t = look sL.sl t ∧ look (sT n).tg t = look sL.tg t ∧ ((∃ j, j < n ∧ dOf j = t ∧ look (sT n).sl t = some (ms j).v) ∨ (∀ cs p, look (sT n).sl t ≠ some (.newp cs p))) := by
    intro t
    rw [look_hush]
    by_cases h : ∃ j, j < n ∧ dOf j = t
    · obtain ⟨j, hj, e⟩ := h
      have h1 := T.done n (Nat.le_refl _) j hj
      have h2 := H.on j hj (hall j hj)
      rw [e] at h1 h2
      exact ⟨by rw [h1.1, h2.1]; rfl, by rw [h1.2, h2.2], .inl ⟨j, hj, e, h1.1⟩⟩
    · have hne : ∀ j, j < n → dOf j ≠ t := fun j hj e => h ⟨j, hj, e⟩
      have h1 := T.rest n (Nat.le_refl _) t hne
      have h2 := H.off t (fun j hj _ => hne j hj)
      have hnn : ∀ cs p, look st.sl t ≠ some (.newp cs p) := by
        intro cs p e
        rw [← h2.1] at e
        obtain ⟨v, _, hr⟩ := H.inv.slots t _ e
        exact hr
      refine ⟨?_, by rw [h1.2, h2.2], .inr (fun cs p => by rw [h1.1]; exact hnn cs p)⟩
      rw [h1.1, h2.1]
      cases e : look st.sl t with
      | none => rfl
      | some v => cases v <;> first | rfl | exact absurd e (hnn _ _)
  have hb := T.bx n (Nat.le_refl _)
  have hbx : (hushSt (sT n)).bx = sL.bx := hb.1.trans H.bx.symm
  have hgr : (hushSt (sT n)).gr = sL.gr := hb.2.trans H.gr.symm
  have hlive : ∀ x, live (hushSt (sT n)) x → live sL x := by
    intro x hx
    cases x with
    | bx k => obtain ⟨cs, h⟩ := hx; exact ⟨cs, hbx ▸ h⟩
    | sx t =>
      rcases hx with ⟨sz, m, c, h⟩ | ⟨z, h⟩
      · exact .inl ⟨sz, m, c, (hlk t).1 ▸ h⟩
      · exact .inr ⟨z, hgr ▸ h⟩
    | cx k o => obtain ⟨z, h⟩ := hx; exact ⟨z, hgr ▸ h⟩
  have hnp : ∀ t cs p, look (sT n).sl t = some (.newp cs p) → ∃ j, j < n ∧ dOf j = t ∧ (ms j).v = .newp cs p := by
    intro t cs p ht
    rcases (hlk t).2.2 with ⟨j, hj, e, h⟩ | h
    · rw [ht] at h; exact ⟨j, hj, e, (Option.some.inj h).symm⟩
    · exact absurd ht (h cs p)
  refine ⟨⟨?_, fun t cs p ht => ?_, fun t u cs ds p q htu ht hu => ?_⟩, fun t cs p ht => by obtain ⟨j, hj, e, _⟩ := hnp t cs p ht; exact ⟨j, hj, e⟩⟩
  · refine H.inv.less (fun t av ht => .inl ((hlk t).1 ▸ ht)) (fun k cs hk => hbx ▸ hk) (fun p z hp => ⟨hgr ▸ hp, ?_⟩) (fun t q h => (hlk t).2.1 ▸ h) (fun t u _ hx => ?_) (fun t av j _ _ cs e => by show look (hushSt (sT n)).bx j = some cs; rw [← e, ← hbx])
    · cases p with
      | s t => exact (hlk t).1
      | c k o => show look (hushSt (sT n)).bx k = look sL.bx k; rw [hbx]
    · obtain ⟨sz, m, c, hx⟩ := hx
      exact ⟨sz, m, c, (hlk u).1.trans hx⟩
  · obtain ⟨j, hj, e, hv⟩ := hnp t cs p ht
    obtain ⟨b, h1, h2⟩ := H.new j cs p hj (hall j hj) hv
    exact ⟨b, e ▸ h1, fun x hx => h2 x (hlive x hx)⟩
  · obtain ⟨j, hj, e, hv⟩ := hnp t cs p ht
    obtain ⟨k, hk, e', hv'⟩ := hnp u ds q hu
    have hjk : j ≠ k := fun h => htu (by rw [← e, ← e', h])
    have := H.apart j k cs ds p q hj hk hjk (hall j hj) (hall k hk) hv hv'
    rw [e, e'] at this; exact this
end
end Go.Proofs.YtibbgjafjhcemaaDoor.Cul
/-! M23 -/
set_option linter.unusedVariables false
set_option linter.unusedSimpArgs false
namespace Go.Proofs.YtibbgjafjhcemaaDoor.Cul
open Go Go.RowKit
section
variable {P : Program} {base : Nat} {w w0 : World} {Pr Pr0 : Prot} {bk : Key → Nat} {st st' : St} {a : Act} {N : Nat} {ops : Array Oper} {call : Cl} {pin : Pins}
theorem quietD_notEx {o : Oper} {m : Made} (h : quietD P call o st = some m) : isEx m.v = false := by
  unfold quietD at h
  split at h
  · unfold exMade at h
    split at h
    · split at h
      · simp at h
      · simp only [Option.bind_eq_some_iff] at h
        obtain ⟨as_, _, r, _, h⟩ := h
        split at h
        · split at h
          · simp only [Option.some.injEq] at h; subst h; rfl
          · simp at h
        · simp at h
    · simp at h
  split at h
  · split at h
    · simp only [Option.some.injEq] at h; subst h; rfl
    · simp only [Option.some.injEq] at h; subst h; rfl
    · simp only [Option.some.injEq] at h; subst h; rfl
    · simp at h
  · simp only [Option.map_eq_some_iff] at h
    obtain ⟨z, _, rfl⟩ := h; rfl
  · simp only [Option.bind_eq_some_iff] at h
    obtain ⟨m0, _, h⟩ := h
    split at h
    · simp at h
    · rename_i hx
      simp only [Option.some.injEq] at h; subst h; simpa using hx
theorem cnt_none (n m : Nat) : cnt n (Array.replicate m false) = n := by
  unfold cnt
  rw [List.filter_eq_self.2 (fun j _ => by rw [getD_replicate_false]; rfl), List.length_range]
theorem fw_drew (I : Inv base w Pr bk st a N) : Fw w Pr w.drew Pr := ⟨(Below.refl _ _).drew, fun _ _ h => h, fun _ _ _ h => h, fun b o h => by simpa using I.prot b o h⟩
theorem region_ok {F : Fence} (E : Easy F) (m : Nat) (hC : CallOk P call) (hm : P.follows .mixedOrders = true) {id : Nat} {dr : Bool} {Q : Exit → Act → World → Prop} (hok : okOps N ops dr = true) (hPn : ∀ o ∈ ops.toList, ∀ d, o.dst = some d → pin.k d = none) (G : Good base w0 Pr0 N pin st a w) (h : aregion P call ops.toList dr st = some st')
    (hQ : ∀ a' w', Good base w0 Pr0 N pin st' a' w' → Q .normal a' w') : (Code.region id ops dr).wpIn F m P Q a w := by
  simp only [okOps, Bool.and_eq_true] at hok
  obtain ⟨hdst, hdr⟩ := hok
  have hN : ∀ o ∈ ops.toList, ∀ d, o.dst = some d → d < N ∧ pin.k d = none := by
    intro o ho d hd
    have := List.all_eq_true.1 hdst o ho
    rw [hd] at this; exact ⟨by simpa using this, hPn o ho d hd⟩
  cases dr with
  | false =>
    simp only [aregion, Bool.false_eq_true, if_false] at h
    exact wpIn_region_list (aops_ok E m hC hQ ops.toList st a w hN G h)
  | true =>
    simp only [Bool.not_true, Bool.false_or] at hdr
    simp only [aregion, if_true] at h
    split at h
    · rename_i hfr2
      obtain ⟨hfr, hhd⟩ := (Bool.and_eq_true _ _ ▸ hfr2 : _ ∧ _)
      simp only [Option.bind_eq_some_iff] at h
      obtain ⟨s, hs, s2, hs2, h⟩ := h
      replace hdr : okDrawN (headN call ops.toList) ops = true := by
        unfold headOk at hhd
        unfold headN at hhd ⊢
        cases hx : ops.toList.any (exD call) with
        | true => rw [hx] at hhd; simp only [Bool.not_true, Bool.false_or, if_true] at hhd ⊢; exact hhd
        | false => simp only [Bool.false_eq_true, if_false]; exact hdr
      unfold okDrawN at hdr
      generalize hn : headN call ops.toList = n at *
      simp only [Bool.and_eq_true, decide_eq_true_eq] at hdr
      obtain ⟨⟨⟨⟨hnlt, hsink⟩, hchain⟩, hseq⟩, hdeps⟩ := hdr
      have hdep : ∀ i o, i < n → ops[i]? = some o → okDeps ops.toList n i o = true := by
        intro i o hi ho
        have := List.all_eq_true.1 hdeps i (List.mem_range.2 hi)
        rw [ho] at this
        simp only [Bool.and_eq_true] at this
        exact this.2
      have hlen : (ops.toList.take n).length = n := by simp; omega
      have htake : ∀ i, i < n → (ops.toList.take n)[i]? = ops.toList[i]? := fun i hi => by rw [List.getElem?_take, if_pos hi]
      have hfresh : ∀ i o, i < n → ops.toList[i]? = some o → freshDst st o = true := by
        intro i o hi ho
        refine List.all_eq_true.1 hfr o (List.mem_of_getElem? (i := i) ?_)
        rw [htake i hi]; exact ho
      obtain ⟨dOf, hdOf⟩ : ∃ dOf : Nat → Nat, ∀ i o d, ops.toList[i]? = some o → o.dst = some d → dOf i = d := ⟨fun i => ((ops.toList[i]?).bind (·.dst)).getD 0, fun i o d ho hd => by simp only [ho, Option.bind_some, hd, Option.getD_some]⟩
      have hd1 : ∀ i o, i < n → ops.toList[i]? = some o → o.dst = some (dOf i) ∧ lookP st.gr (.s (dOf i)) = none ∧ ¬ exAt st (dOf i) := by
        intro i o hi ho
        have := hfresh i o hi ho
        unfold freshDst at this
        cases hd : o.dst with
        | none => rw [hd] at this; simp at this
        | some d =>
          rw [hd] at this
          simp only [Bool.and_eq_true, Option.isNone_iff_eq_none] at this
          rw [hdOf i o d ho hd]
          refine ⟨rfl, this.1, fun ⟨sz, m, c, hx⟩ => ?_⟩
          rw [hx] at this; simp at this
      have hget : ∀ i, i < n → ∃ o, ops.toList[i]? = some o := fun i hi => ⟨_, List.getElem?_eq_getElem (by simp; omega)⟩
      have hinj : ∀ i j, i < n → j < n → dOf i = dOf j → i = j := by
        intro i j hi hj e
        obtain ⟨oi, hoi⟩ := hget i hi
        obtain ⟨oj, hoj⟩ := hget j hj
        have := ((okDeps_spec (hdep i oi hi (by simpa using hoi))).2.2 j hj oj (dOf j) hoj (hd1 j oj hj hoj).1).2
        rcases this with this | this
        · exact this.symm
        · exact absurd ((hd1 i oi hi hoi).1.trans (by rw [e])) this
      obtain ⟨ms, sT, t1, t2, t3, t4, t5, t6⟩ := told (P := P) (call := call) (ops := ops.toList) (s := s) (dOf := dOf) (ops.toList.take n) st
        (fun i o ho => by
          have hi : i < n := by have := (List.getElem?_eq_some_iff.1 ho).1; rw [hlen] at this; exact this
          exact (hd1 i o hi (by rw [← htake i hi]; exact ho)).1)
        (fun i j hi hj e => hinj i j (by omega) (by omega) e) hs
      rw [hlen] at t1 t3 t4 t5 t6
      have T : Told P call ops.toList st n dOf ms sT := by
        refine ⟨fun i hi => ?_, fun i hi o ho => t3 i hi o (by rw [htake i hi]; exact ho), t4, t5, t6⟩
        obtain ⟨o, ho⟩ := hget i hi
        exact ⟨o, ho, (hd1 i o hi ho).1⟩
      have hmx : ∀ j, j < n → isEx (ms j).v = false := by
        intro j hj
        obtain ⟨o, ho⟩ := hget j hj
        obtain ⟨b, _, hbt, hbf⟩ := T.step j hj o ho
        cases b with
        | true => exact quietD_notEx (hbt rfl)
        | false => rw [hbf rfl]; rfl
      obtain ⟨Pr, bk, I, hch⟩ := G
      have hfd := fw_drew I
      have J0 : JJ base w0 Pr0 N pin st n dOf ms (Array.replicate ops.size false) a w.drew st Pr bk := by
        have hno : ∀ j, ¬ isOn (Array.replicate ops.size false) j := fun j h => by unfold isOn at h; rw [getD_replicate_false] at h; simp at h
        exact ⟨I.fw hfd, ⟨hch.1.trans (hfd.bel.mono I.hb), hch.2.1, hch.2.2.1.trans hfd.ko, hch.2.2.2.1, fun b o v h1 h2 => hch.2.2.2.2.1 b o v h1 h2, hch.2.2.2.2.2⟩, rfl, rfl, fun j _ hl => absurd hl (hno j), fun t _ => ⟨rfl, rfl⟩, fun j _ _ _ hl => absurd hl (hno j), fun i _ _ _ _ _ _ _ _ hl => absurd hl (hno i)⟩
      have inv0 : HeadInv .any ops n (Array.replicate ops.size false) :=
        ⟨by simp, fun j oj _ hl => (by rw [getD_replicate_false] at hl; cases hl), fun t _ ht => getD_in (by simpa using ht) (getD_replicate_false _ _)⟩
      refine wpIn_region_any hm ?_
      have := any_ok (Q := Q) E m hC T hnlt hsink hchain hseq hdep hinj
        (fun i hi => by obtain ⟨o, ho⟩ := hget i hi; exact (hN o (List.mem_of_getElem? ho) _ (hd1 i o hi ho).1).1)
        (fun i hi => by obtain ⟨o, ho⟩ := hget i hi; exact (hd1 i o hi ho).2.1)
        (fun i hi => by obtain ⟨o, ho⟩ := hget i hi; exact (hd1 i o hi ho).2.2) hmx
        (fun listed a' w' sL Pr' bk' hall H => by
          obtain ⟨SS0, hnp⟩ := H.done T hall hinj
          rw [t1] at SS0 hnp
          obtain ⟨bk2, I2, hb2⟩ := settle_ok (ops.toList.take n) SS0 (fun t cs p ht => by
            obtain ⟨j, hj, e⟩ := hnp t cs p ht
            obtain ⟨o, ho⟩ := hget j hj
            exact ⟨o, List.mem_of_getElem? (i := j) (by rw [htake j hj]; exact ho), by rw [← e]; exact (hd1 j o hj ho).1⟩) hs2
          exact aops_ok E m hC hQ (ops.toList.drop n) s2 a' w' (fun o ho => hN o (List.mem_of_mem_drop ho)) ⟨Pr', bk2, I2, H.chain.1, H.chain.2.1, H.chain.2.2.1, fun k b e => (hb2 k (fun o ho e2 => by rw [hPn o (List.mem_of_mem_take ho) k e2] at e; simp at e)).trans (H.chain.2.2.2.1 k b e), H.chain.2.2.2.2⟩ h)
        n _ a w.drew st Pr bk (cnt_none n ops.size) inv0 J0
      rw [show n + (ops.size - n) = ops.size by omega] at this
      exact this
    · simp at h
end
end Go.Proofs.YtibbgjafjhcemaaDoor.Cul
/-! M24a -/
set_option linter.unusedVariables false
set_option linter.unusedSimpArgs false
namespace Go.Proofs.YtibbgjafjhcemaaDoor.Cul
open Go Go.RowKit
/-! ### Blocks that are no cells turn -/
section
variable {pin : Pins} {P : Program} {base : Nat} {w w' w0 : World} {Pr Pr0 : Prot} {bk : Key → Nat} {st : St} {a : Act} {N : Nat} {r : Nat}
def Prot.less (Pr : Prot) (r : Nat) : Prot := fun b o => Pr b o ∧ b ≠ r
theorem cell_none {o : Obj} (h : w.heap[r]? = some o) (hc : o.isCells = false) (i : Nat) : w.cell? ⟨r, i, none⟩ = none := by
  unfold World.cell?
  simp only [h]
  cases o <;> simp_all [Obj.isCells]
mutual
theorem Rp.shrink (hr : ∀ i, w.cell? ⟨r, i, none⟩ = none) : ∀ {p : PV} {v : Value}, Rp w Pr p v → Rp w (Pr.less r) p v
  | _, _, .lit h => .lit h
  | _, _, .sl hrr h1 hl hn hc hp => .sl (RpL.shrink hr hrr) h1 hl hn hc (fun i hi => ⟨hp i hi, fun e => by
      have := hc i _ (List.getElem?_eq_getElem hi); rw [e, hr] at this; simp at this⟩)
  | _, _, .sl0 => .sl0
  | _, _, .el hrr h1 hc hp => .el (RpL.shrink hr hrr) h1 hc (fun i hi => ⟨hp i hi, fun e => by
      have := hc i _ (List.getElem?_eq_getElem hi); rw [e, hr] at this; simp at this⟩)
  | _, _, .fn hrr => .fn (RpL.shrink hr hrr)
  | _, _, .ag hrr h1 => .ag (RpL.shrink hr hrr) h1
  | _, _, .tup hrr => .tup (RpL.shrink hr hrr)
theorem RpL.shrink (hr : ∀ i, w.cell? ⟨r, i, none⟩ = none) : ∀ {cs : List PV} {vs : List Value}, RpL w Pr cs vs → RpL w (Pr.less r) cs vs
  | _, _, .nil => .nil
  | _, _, .cons h hs => .cons (Rp.shrink hr h) (RpL.shrink hr hs)
end
theorem live_cells (I : Inv base w Pr bk st a N) {x : Key} (hx : live st x) : ∃ c T, w.heap[bk x]? = some (.cells c T (0, 0)) := by
  cases x with
  | bx k => obtain ⟨cs, h⟩ := hx; obtain ⟨⟨T, c, vs, h1, _⟩, _⟩ := I.boxes k cs h; exact ⟨_, T, h1⟩
  | sx t =>
    rcases hx with ⟨sz, n, cs, h⟩ | ⟨z, h⟩
    · obtain ⟨v, _, o, cap, vs, _, _, _, _, _, h6, _⟩ := I.slots t _ h
      obtain ⟨c, T, e, _⟩ := h6.there; exact ⟨c, T, e⟩
    · obtain ⟨_, _, _, _, _, _, h3, _⟩ := I.grs t z h
      obtain ⟨c, T, e, _⟩ := h3.there; exact ⟨c, T, e⟩
  | cx k o =>
    obtain ⟨z, h⟩ := hx
    obtain ⟨_, _, _, _, _, _, _, _, h4, _⟩ := I.grc k o z h
    obtain ⟨c, T, e, _⟩ := h4.there; exact ⟨c, T, e⟩
theorem RpA.turn {t : Nat} {av : AV} {v : Value} (k1 : ∀ {p v}, Rp w Pr p v → Rp w' (Pr.less r) p v) (k2 : ∀ {cs vs}, RpL w Pr cs vs → RpL w' (Pr.less r) cs vs)
    (hex : ∀ sz n cs, av = .ex sz n cs → w'.heap[bk (.sx t)]? = w.heap[bk (.sx t)]?) (hbs : ∀ k c T, w.heap[bk (.bx k)]? = some (.cells c T (0, 0)) → ∃ c', w'.heap[bk (.bx k)]? = some (.cells c' T (0, 0)) ∧ c'.size = c.size) (h : RpA st a w Pr bk t av v) : RpA st a w' (Pr.less r) bk t av v := by
  cases av with
  | pv p => exact k1 h
  | bp k off => exact h
  | cl f caps =>
    obtain ⟨vs, h1, h2, h3⟩ := h
    refine ⟨vs, h1, h2, fun i c u hc hu => ?_⟩
    have := h3 i c u hc hu
    cases c with
    | pv p => exact k1 this
    | bp k off => exact this
  | ex sz n cs =>
    obtain ⟨o, cap, vs, h1, h2, h3, h4, h5, h6, h7⟩ := h
    have he := hex sz n cs rfl
    exact ⟨o, cap, vs, h1, k2 h2, h3, h4, rangeAt_heap he h5, ⟨h6.hz, h6.le, by obtain ⟨c, T, e1, e2⟩ := h6.there; exact ⟨c, T, he.trans e1, e2⟩, fun o' ho => h6.pr o' ho.1⟩, fun o' ho => h7 o' ho.1⟩
  | xr u => exact h
  | xe u off => exact h
  | newp _ _ => exact h
  | dead => trivial
  | bs j off sz n => exact h.world (hbs j)
  | mv f j off sz n => obtain ⟨u, h1, h2⟩ := h; exact ⟨u, h1, h2.world (hbs j)⟩
  | tg j off sz n rest => obtain ⟨u, us, h1, h2, h3⟩ := h; exact ⟨u, us, h1, h2.world (hbs j), k2 h3⟩
theorem Inv.turn (I : Inv base w Pr bk st a N) {row : Option Nat} (hg : w.grownBy w' row) (hr : ∀ r', row = some r' → r' = r) {o : Obj} (ho : w.heap[r]? = some o) (hc : o.isCells = false) (hd : ∀ d ∈ a.defers, d ≠ { target := .collected r, args := #[] }) :
    Inv base w' (Pr.less r) bk st a N := by
  have hnone := cell_none ho hc
  have hsame : ∀ k, k < w.heap.size → k ≠ r → w'.heap[k]? = w.heap[k]? := fun k hk hne => hg.block k hk (fun e => hne (hr k e.symm))
  have hnr : ∀ x, live st x → bk x ≠ r := fun x hx e => by
    obtain ⟨c, T, h⟩ := live_cells I hx
    rw [e, ho] at h; cases h; simp [Obj.isCells] at hc
  have hlv : ∀ x, live st x → w'.heap[bk x]? = w.heap[bk x]? := fun x hx => hsame _ (I.own x hx).2 (hnr x hx)
  have hK : Kp w (Pr.less r) w' (Pr.less r) := ⟨fun _ _ h => h, fun b i h => World.cell?_of_block (w := w) (hsame b (I.prot b i h.1) h.2)⟩
  have k1 : ∀ {p v}, Rp w Pr p v → Rp w' (Pr.less r) p v := fun h => Rp.mono hK (Rp.shrink hnone h)
  have k2 : ∀ {cs vs}, RpL w Pr cs vs → RpL w' (Pr.less r) cs vs := fun h => RpL.mono hK (RpL.shrink hnone h)
  have hroom : ∀ x, live st x → ∀ {o n cap sz}, Room w Pr (bk x) o n cap sz → Room w' (Pr.less r) (bk x) o n cap sz := fun x hx {o n cap sz} h =>
    ⟨h.hz, h.le, by obtain ⟨c, T, e1, e2⟩ := h.there; exact ⟨c, T, (hlv x hx).trans e1, e2⟩, fun o' ho => h.pr o' ho.1⟩
  constructor
  · exact I.size
  · refine ⟨fun d hdm => ?_, I.defers.2⟩
    obtain ⟨D, e1, e2, e3⟩ := I.defers.1 d hdm
    have hne : D ≠ r := fun e => hd d hdm (by rw [e1, e])
    exact ⟨D, e1, (hsame D (Array.getElem?_eq_some_iff.1 e2).1 hne).trans e2, e3⟩
  · exact Nat.le_trans I.hb hg.size
  · exact fun b i h => Nat.lt_of_lt_of_le (I.prot b i h.1) hg.size
  · intro t av ht
    obtain ⟨v, hv, hrp⟩ := I.slots t av ht
    exact ⟨v, hv, RpA.turn k1 k2 (fun sz n cs e => hlv (.sx t) (.inl ⟨sz, n, cs, by rw [← e]; exact ht⟩)) (fun j c T e => ⟨c, (hsame _ (Array.getElem?_eq_some_iff.1 e).1 (fun e2 => by rw [e2, ho] at e; cases e; simp [Obj.isCells] at hc)).trans e, rfl⟩) hrp⟩
  · exact fun x hx => ⟨(I.own x hx).1, Nat.lt_of_lt_of_le (I.own x hx).2 hg.size⟩
  · exact I.inj
  · intro k cs hq
    obtain ⟨⟨T', c', us', e1, e0, e2, e3⟩, e4⟩ := I.boxes k cs hq
    exact ⟨⟨T', c', us', (hlv (.bx k) ⟨cs, hq⟩).trans e1, e0, k2 e2, e3⟩, fun o ho => e4 o ho.1⟩
  · intro t z hz
    obtain ⟨o', n, cap, c, e1, e2, e3, e0⟩ := I.grs t z hz
    exact ⟨o', n, cap, c, e1, e2, hroom (.sx t) (.inr ⟨z, hz⟩) e3, e0⟩
  · intro k i z hz
    obtain ⟨o', n, cap, c, bcs, e1, e2, e3, e4, e0⟩ := I.grc k i z hz
    exact ⟨o', n, cap, c, bcs, e1, e2, (World.cell?_of_block (w := w) (hlv (.bx k) ⟨bcs, e1⟩)).trans e3, hroom (.cx k i) ⟨z, hz⟩ e4, e0⟩
  · intro t q ht hq
    rw [← I.tags t q ht hq]
    cases q with
    | s x => rfl
    | c k i =>
      obtain ⟨z, hz⟩ := hq
      obtain ⟨o', n, cap, c, bcs, e1, e2, e3, e4, e0⟩ := I.grc k i z hz
      exact World.cell?_of_block (w := w) (hlv (.bx k) ⟨bcs, e1⟩)
theorem KO.grown {w0 w w' : World} {r0 : Option Nat} (hko : KO w0 w) (hg : w.grownBy w' r0) (hr : ∀ r, r0 = some r → w0.heap.size ≤ r) : KO w0 w' := by
  have hb : ∀ k o, k < w0.heap.size → w.heap[k]? = some o → w'.heap[k]? = some o := fun k o hk h =>
    (hg.block k (Array.getElem?_eq_some_iff.1 h).1 (fun e => by have := hr k e.symm; omega)).trans h
  exact ⟨⟨Nat.le_trans hko.size hg.size, fun k o h ho => hb k o (Array.getElem?_eq_some_iff.1 h).1 (hko.same k o h ho)⟩, fun k c T fz h => by
    obtain ⟨c', h3, h4⟩ := hko.sized k c T fz h
    exact ⟨c', hb k _ (Array.getElem?_eq_some_iff.1 h).1 h3, h4⟩⟩
/-- The same frame with fewer marks. -/
theorem Inv.marks (I : Inv base w Pr bk st a N) {ds : List Deferred} (h : ∀ d ∈ ds, Mark base w d) (hn : ds.Nodup) : Inv base w Pr bk st { a with defers := ds } N :=
  ⟨I.size, ⟨h, hn⟩, I.hb, I.prot, fun t av ht => (by
    obtain ⟨v, hv, hr⟩ := I.slots t av ht
    exact ⟨v, hv, by cases av <;> exact hr⟩), I.own, I.inj, I.boxes, I.grs, I.grc, fun t q ht hq => (by
    have := I.tags t q ht hq
    cases q <;> exact this)⟩
theorem leaves_ok {F : Fence} {n : Nat} {fn : Func} {R : Ending → World → Prop} (hb0 : base = w0.heap.size) (hz : pin.ds = none) (hR : ∀ (tmps : Array Value) (w : World), Good base w0 Pr0 N pin st { tmps := tmps, defers := [] } w → ∃ v, (results fn tmps).run P w = .ok v w ∧ R (.returned v) w) :
    ∀ (ds : List Deferred) (tmps : Array Value) (w : World), Good base w0 Pr0 N pin st { tmps := tmps, defers := ds } w → LeavesInM F n P fn tmps R ds .returning w
  | [], tmps, w, G => by
    obtain ⟨v, h1, h2⟩ := hR tmps w G
    exact ⟨v, h1, h2⟩
  | d :: ds, tmps, w, G => by
    obtain ⟨Pr, bk, I, hb, hp, hko, hpn, hkc, _⟩ := G
    obtain ⟨D, e1, e2, e3⟩ := I.defers.1 d (by simp)
    have hnd := I.defers.2
    simp only [List.nodup_cons] at hnd
    refine ⟨by simp, .inl ⟨D, _, by rw [e1], run_takeDeferred e2, leaves_ok hb0 hz hR ds tmps _ ?_⟩⟩
    have I1 := I.marks (ds := ds) (fun d' hd' => I.defers.1 d' (List.mem_cons_of_mem _ hd')) hnd.2
    have hg : w.grownBy (w.putObj D (.deferred none)) (some D) := grownBy_putObj' w D _
    have I2 := I1.turn hg (r := D) (fun r' e => by cases e; rfl) e2 rfl (fun d' hd' e => hnd.1 (by rw [e1, ← e]; exact hd'))
    refine ⟨_, bk, I2, hb.grown hg (Nat.le_trans (Nat.le_of_eq hb0) hb.size) (fun k e => by cases e; exact e3), fun b o hlt h => hp b o hlt h.1, ⟨⟨Nat.le_trans hko.size (by simp), fun k o h ho => ?_⟩, fun k c T fz h => ?_⟩, hpn, fun b o v h1 h2 => ?_, fun ds' e => by rw [hz] at e; simp at e⟩
    rotate_left
    · obtain ⟨c', h3, h4⟩ := hko.sized k c T fz h
      have hk : k ≠ D := fun e => by
        have := (Array.getElem?_eq_some_iff.1 h).1; omega
      exact ⟨c', by rw [World.putObj_heap_other hk]; exact h3, h4⟩
    · obtain ⟨h3, h4⟩ := hkc b o v h1 h2
      have hbD : b ≠ D := fun e => by subst e; rw [cell_none e2 rfl] at h4; simp at h4
      exact ⟨⟨h3, hbD⟩, (World.cell?_of_block (w := w) (a := ⟨b, o, none⟩) (World.putObj_heap_other hbD)).trans h4⟩
    have hk : k ≠ D := fun e => by
      have := (Array.getElem?_eq_some_iff.1 h).1; omega
    rw [World.putObj_heap_other hk]
    exact hko.same k o h ho
end
end Go.Proofs.YtibbgjafjhcemaaDoor.Cul
