/- Part of a proof by an abstract machine for the program's code: lemmas, without conditions of their own beyond those that each states. -/
import Derived.Test.YtibbgjafjhcemaaDoorM12
set_option linter.unusedVariables false
set_option linter.unusedSimpArgs false
namespace Go.Proofs.YtibbgjafjhcemaaDoor.Cul
open Go Go.RowKit
section
variable {P : Program} {base : Nat} {w : World} {Pr : Prot} {bk : Key → Nat} {st : St} {a : Act} {N : Nat}
theorem run_storeVar_row' (w : World) (g o : Nat) (t : TypeId) (ty : TypeId) (cur : Array Value) (v : Value) (hg : w.heap[g]? = some (.cells cur t (0, 0))) (hle : o + v.cells.toList.length ≤ cur.size)
    (hi : sizeT P ty = some v.cells.toList.length) (h1 : One v.cells.toList) : (storeVar ty ⟨g, o, none⟩ v).run P w = .ok () (w.setRow g (spliceV cur.toList o v.cells.toList).toArray) := by
  have h := run_storeCells_at (P := P) g o t v.cells.toList 0 cur w hg (by omega) h1
  simp only [storeVar, Sem.run_bind, run_sizeT hi, Result.andThen_ok]
  rw [if_neg (by rw [Array.length_toList]; simp)]
  simpa [spliceV] using h
/-- A row that may be appended to goes from a slot into a variable's cell. -/
theorem Inv.grantC (I : Inv base w Pr bk st a N) {u k off z : Nat} (hz : lookP st.gr (.s u) = some z) {bcs : List PV} (hb : look st.bx k = some bcs) {n : Nat} {cs : List PV} (hp : bcs[off]? = some (.sl z n cs))
    (hv : w.cell? ⟨bk (.bx k), off, none⟩ = a.tmps[u]?) (hu : look st.sl u = some (.pv (.sl z n cs)))
    (ht0 : ∀ t, look st.tg t ≠ some (some (.c k off))) :
    ∃ bk', Inv base w Pr bk' { st with gr := (.c k off, z) :: st.gr.filter (fun x => x.1 ≠ .s u), tg := st.tg.map (killT (.s u)) } a N ∧ ∀ j, bk' (.bx j) = bk (.bx j) := by
  obtain ⟨o, n', cap, cs', e1, e2, e3⟩ := I.grs u z hz
  rw [hu] at e1; cases e1
  have hne : ∀ t, Pl.s u = .s t → ¬ exAt st t := fun t e ⟨sz, m, c, h⟩ => by cases e; rw [hu] at h; simp at h
  have I2 := I.release (.s u)
  have hlive0 : ∀ x, live { st with gr := (.c k off, z) :: st.gr.filter (fun x => x.1 ≠ .s u), tg := st.tg.map (killT (.s u)) } x → x = .cx k off ∨ (x ≠ .cx k off ∧ live st x ∧ x ≠ .sx u) := by
    intro x hx
    by_cases hxk : x = .cx k off
    · exact .inl hxk
    · have : live { st with gr := st.gr.filter (fun x => x.1 ≠ .s u), tg := st.tg.map (killT (.s u)) } x := by
        cases x with
        | bx k' => exact hx
        | sx t =>
          rcases hx with hx | ⟨z', hx⟩
          · exact .inl hx
          · simp only [lookP] at hx; rw [if_neg (by simp)] at hx; exact .inr ⟨z', hx⟩
        | cx k' o' =>
          obtain ⟨z', hx⟩ := hx
          simp only [lookP] at hx
          rw [if_neg (fun e => hxk (by cases e; rfl))] at hx; exact ⟨z', hx⟩
      obtain ⟨h1, h2⟩ := live_release this hne
      exact .inr ⟨hxk, h1, h2⟩
  obtain ⟨bk', hk1, hk2⟩ : ∃ bk' : Key → Nat, (∀ x, x ≠ .cx k off → bk' x = bk x) ∧ bk' (.cx k off) = bk (.sx u) := ⟨fun x => if x = .cx k off then bk (.sx u) else bk x, fun x hx => if_neg hx, if_pos rfl⟩
  have hbx : ∀ k, bk' (.bx k) = bk (.bx k) := fun k => hk1 _ (by simp)
  have hsx : ∀ t, bk' (.sx t) = bk (.sx t) := fun t => hk1 _ (by simp)
  have hlu : live st (.sx u) := .inr ⟨z, hz⟩
  refine ⟨bk', ?_, hbx⟩
  constructor
  · exact I.size
  · exact I.defers
  · exact I.hb
  · exact I.prot
  · intro t av ht
    obtain ⟨v, h1, h2⟩ := I2.slots t av ht
    refine ⟨v, h1, ?_⟩
    cases av with
    | pv p => exact h2
    | bp k off => simp only [RpA] at h2 ⊢; rw [hbx]; exact h2
    | cl f caps =>
      obtain ⟨us, e1, e2, e3⟩ := h2
      refine ⟨us, e1, e2, fun i c x hc hx => ?_⟩
      have e4 := e3 i c x hc hx
      cases c with
      | pv p => exact e4
      | bp k off => simp only [CapRp] at e4 ⊢; rw [hbx]; exact e4
    | ex sz n c => simp only [RpA] at h2 ⊢; rw [hsx]; exact h2
    | xr u => exact h2
    | xe u off => exact h2
    | newp _ => exact h2
    | dead => trivial
  · intro x hx
    rcases hlive0 x hx with rfl | ⟨h0, h1, _⟩
    · rw [hk2]; exact I.own _ hlu
    · rw [hk1 x h0]; exact I.own x h1
  · intro x y hx hy e
    rcases hlive0 x hx with rfl | ⟨h0, h1, h2⟩
    · rcases hlive0 y hy with rfl | ⟨h0', h1', h2'⟩
      · rfl
      · rw [hk2, hk1 y h0'] at e; exact absurd (I.inj _ _ hlu h1' e).symm h2'
    · rcases hlive0 y hy with rfl | ⟨h0', h1', h2'⟩
      · rw [hk2, hk1 x h0] at e; exact absurd (I.inj _ _ h1 hlu e) h2
      · rw [hk1 x h0, hk1 y h0'] at e; exact I.inj x y h1 h1' e
  · intro k' cs' hk
    rw [hbx]; exact I.boxes k' cs' hk
  · intro t z' hz'
    simp only [lookP] at hz'
    rw [if_neg (by simp)] at hz'
    obtain ⟨o', n'', cap', c, h1, h2, h3⟩ := I2.grs t z' hz'
    exact ⟨o', n'', cap', c, h1, by rw [hsx]; exact h2, by rw [hsx]; exact h3⟩
  · intro k' i z' hz'
    simp only [lookP] at hz'
    by_cases e : Pl.c k off = Pl.c k' i
    · cases e
      simp only [if_true, Option.some.injEq] at hz'
      subst hz'
      exact ⟨o, n, cap, cs, bcs, hb, hp, by rw [hbx, hk2, hv]; exact e2, by rw [hk2]; exact e3⟩
    · rw [if_neg e] at hz'
      obtain ⟨o', n'', cap', c, bcs', h1, h2, h3, h4⟩ := I2.grc k' i z' hz'
      have : bk' (.cx k' i) = bk (.cx k' i) := hk1 _ (fun e2 => e (by cases e2; rfl))
      exact ⟨o', n'', cap', c, bcs', h1, h2, by rw [hbx, this]; exact h3, by rw [this]; exact h4⟩
  · intro t q ht hq
    simp only at ht
    rw [look_killT] at ht
    cases hm : look st.tg t with
    | none => simp [hm] at ht
    | some p =>
      simp only [hm, Option.map_some, Option.some.injEq] at ht
      split at ht
      · simp at ht
      · rename_i hps
        subst ht
        obtain ⟨z', hz'⟩ := hq
        simp only [lookP] at hz'
        by_cases e : Pl.c k off = q
        · subst e
          exact absurd hm (ht0 t)
        · rw [if_neg e] at hz'
          rw [lookP_ne] at hz'
          split at hz'
          · simp at hz'
          · have := I.tags t q hm ⟨z', hz'⟩
            cases q with
            | s u => exact this
            | c k o => simp only [placeVal] at this ⊢; rw [hbx]; exact this
/-- An element of an array of the frame's own is written. -/
theorem Inv.setEx (I : Inv base w Pr bk st a N) {u off sz n : Nat} {cs new : List PV} {vs : List Value} (hu : look st.sl u = some (.ex sz n cs)) (hle : off + new.length ≤ cs.length) (hr : RpL w Pr new vs) (h1 : One vs)
    {b o : Nat} {n' cap' : Nat} (hv : a.tmps[u]? = some (.slice (some ⟨b, o, none⟩) n' cap')) :
    ∃ cur T, w.heap[b]? = some (.cells cur T (0, 0)) ∧ o + off + vs.length ≤ cur.size ∧ base ≤ b ∧ Kp w Pr (w.setRow b (spliceV cur.toList (o + off) vs).toArray) Pr ∧
      Inv base (w.setRow b (spliceV cur.toList (o + off) vs).toArray) Pr bk { st with sl := (u, .ex sz n (splice cs off new)) :: drop1 st.sl u } a N := by
  obtain ⟨v, hv1, o2, cap, us, hve, hu2, hu3, hu4, hu5, hu6, hu7⟩ := I.slots u _ hu
  rw [hv] at hv1
  simp only [Option.some.injEq] at hv1
  rw [← hv1] at hve
  simp only [Value.slice.injEq, Option.some.injEq, Addr.mk.injEq] at hve
  obtain ⟨⟨rfl, rfl, _⟩, rfl, rfl⟩ := hve
  obtain ⟨cur, T, hc1, hc2⟩ := hu6.there
  have hlive : live st (.sx u) := .inl ⟨sz, n', cs, hu⟩
  have hown := I.own _ hlive
  have hlen := hr.length
  have hlen2 := hu2.length
  have hcap : n' * sz ≤ cap' * sz := Nat.mul_le_mul_right _ hu6.le
  have hW := wr_setRow w (bk (.sx u)) (spliceV cur.toList (o + off) vs).toArray ⟨_, _, _, hc1⟩
  have hK : Kp w Pr (w.setRow (bk (.sx u)) (spliceV cur.toList (o + off) vs).toArray) Pr := ⟨fun _ _ h => h, fun b o' hp => by
    have hne : b ≠ bk (.sx u) := fun e => hu7 o' (by rw [← e]; exact hp)
    exact World.cell?_of_block (w := w) (hW.other b hne)⟩
  have hh : (w.setRow (bk (.sx u)) (spliceV cur.toList (o + off) vs).toArray).heap[bk (.sx u)]? = some (.cells (spliceV cur.toList (o + off) vs).toArray T (0, 0)) := setRow_heap w _ _ _ _ _ hc1
  have hsz : (spliceV cur.toList (o + off) vs).length = cur.size := by unfold spliceV; simp; omega
  have hne : ∀ x, live st x → x ≠ .sx u → bk x ≠ bk (.sx u) := fun x hx hxk e => hxk (I.inj x (.sx u) hx hlive e)
  have hsl : ∀ t, look ((u, AV.ex sz n' (splice cs off new)) :: drop1 st.sl u) t = if t = u then some (.ex sz n' (splice cs off new)) else look st.sl t := by
    intro t; simp only [look]
    by_cases e : u = t
    · simp [e]
    · rw [if_neg e, look_drop1, if_neg (Ne.symm e), if_neg (Ne.symm e)]
  have hex : ∀ x, exAt { st with sl := (u, AV.ex sz n' (splice cs off new)) :: drop1 st.sl u } x ↔ exAt st x := by
    intro x; simp only [exAt, hsl]
    by_cases e : x = u
    · subst e; simp only [if_true]; exact ⟨fun _ => ⟨_, _, _, hu⟩, fun _ => ⟨_, _, _, rfl⟩⟩
    · rw [if_neg e]
  have hlv : ∀ x, live { st with sl := (u, AV.ex sz n' (splice cs off new)) :: drop1 st.sl u } x → live st x := by
    intro x hx
    cases x with
    | sx t => exact hx.imp (hex t).1 id
    | bx k => exact hx
    | cx k o => exact hx
  refine ⟨cur, T, hc1, by omega, hown.1, hK, ?_⟩
  constructor
  · exact I.size
  · exact ⟨fun d hd => (I.defers.1 d hd).ko hW.ko, I.defers.2⟩
  · simpa using I.hb
  · simpa using I.prot
  · intro t av ht
    rw [hsl] at ht
    by_cases e : t = u
    · subst e
      rw [if_pos rfl] at ht
      simp only [Option.some.injEq] at ht; subst ht
      refine ⟨_, hv, o, cap', spliceV us off vs, rfl, RpL.mono hK ?_, ?_, ?_, ?_, ⟨hu6.hz, hu6.le, ⟨_, _, hh, by simp [hsz]; exact hc2⟩, hu6.pr⟩, hu7⟩
      · unfold splice spliceV; rw [hlen]; exact ((hu2.take off).app hr).app (hu2.drop _)
      · intro x hx
        unfold spliceV at hx
        simp only [List.mem_append] at hx
        rcases hx with (hx | hx) | hx
        · exact hu3 x (List.mem_of_mem_take hx)
        · exact h1 x hx
        · exact hu3 x (List.mem_of_mem_drop hx)
      · unfold splice; simp; omega
      · intro j x hx
        rw [cell_of_row _ _ _ _ _ _ hh]
        simp only [List.getElem?_toArray]
        by_cases hj : off ≤ j ∧ j < off + vs.length
        · unfold spliceV at hx ⊢
          rw [List.append_assoc, List.getElem?_append_right (by simp; omega), List.getElem?_append_left (by simp; omega)] at hx
          rw [List.append_assoc, List.getElem?_append_right (by simp; omega), List.getElem?_append_left (by simp; omega), ← hx]
          congr 1
          simp only [List.length_take, Array.length_toList]
          omega
        · have hj1 : us[j]? = some x := by rw [← hx]; exact (splice_get us off vs (by omega) j (by omega)).symm
          have hc := hu5 j x hj1
          rw [cell_of_row _ _ _ _ _ _ hc1] at hc
          rw [← hc]
          have := splice_get cur.toList (o + off) vs (by simp; omega) (o + j) (by omega)
          simpa [spliceV] using this
    · rw [if_neg e] at ht
      obtain ⟨v, hv', hrp⟩ := I.slots t av ht
      refine ⟨v, hv', ?_⟩
      have := RpA.wr hW hK (fun sz n c e2 => hne (.sx t) (.inl ⟨sz, n, c, by rw [← e2]; exact ht⟩) (by simpa using e)) hrp
      cases av with
      | xr x => exact ⟨this.1, (hex x).2 this.2⟩
      | xe x off => exact ⟨this.1, (hex x).2 this.2⟩
      | _ => exact this
  · exact fun x hx => by simpa using I.own x (hlv x hx)
  · exact fun x y hx hy => I.inj x y (hlv x hx) (hlv y hy)
  · intro k' cs' hq
    obtain ⟨⟨T', us', e1, e2, e3⟩, e4⟩ := I.boxes k' cs' hq
    exact ⟨⟨T', us', (hW.other _ (hne (.bx k') ⟨cs', hq⟩ (by simp))).trans e1, RpL.mono hK e2, e3⟩, e4⟩
  · intro t z hz
    obtain ⟨o', n, cap, c, e1, e2, e3⟩ := I.grs t z hz
    have htu : t ≠ u := fun e => by subst e; rw [hu] at e1; simp at e1
    exact ⟨o', n, cap, c, by rw [hsl, if_neg htu]; exact e1, e2, e3.wr hW (hne (.sx t) (.inr ⟨z, hz⟩) (by simpa using htu))⟩
  · intro k' i z hz
    obtain ⟨o', n, cap, c, bcs, e1, e2, e3, e4⟩ := I.grc k' i z hz
    exact ⟨o', n, cap, c, bcs, e1, e2, (World.cell?_of_block (w := w) (hW.other _ (hne (.bx k') ⟨bcs, e1⟩ (by simp)))).trans e3, e4.wr hW (hne (.cx k' i) ⟨z, hz⟩ (by simp))⟩
  · intro t q ht hq
    rw [← I.tags t q ht hq]
    cases q with
    | s x => rfl
    | c k' i =>
      obtain ⟨z, hz⟩ := hq
      obtain ⟨o', n, cap, c, bcs, e1, e2, e3, e4⟩ := I.grc k' i z hz
      exact World.cell?_of_block (w := w) (hW.other _ (hne (.bx k') ⟨bcs, e1⟩ (by simp)))
theorem eok_store (I : Inv base w Pr bk st a N) {o : Oper} {t : TypeId} {x y : Operand} {st' : St} (ho : o.op = .store t x y) (h : effect P o st = some st') : EOk P base w Pr bk st a N o st' := by
  simp only [effect, ho] at h
  split at h
  · rename_i hdst
    have he : ∀ b o' w', a.eval x = .pointer (some ⟨b, o', none⟩) → (storeVar t ⟨b, o', none⟩ (a.eval y)).run P w = .ok () w' → (execOp a.eval o).run P w = .ok .skip w' := fun b o' w' hx hs => by
      simp only [execOp, ho, hx, Sem.run_bind]
      simp [Instr.storeAt, Instr.sureAddr, hs]
    have hput : a.put o.dst undef = a := by rw [hdst]; rfl
    split at h
    · rename_i k off heq
      -- a variable of the frame's own
      have main : ∀ p st1, st.ev y = some (.pv p) → some p.cells.length = sizeT P t → isTup p = false → st.setBox k off p.cells = some st1 →
          ∃ w', (execOp a.eval o).run P w = .ok .skip w' ∧ base ≤ bk (.bx k) ∧ Wr w w' (bk (.bx k)) ∧ Kp w Pr w' Pr ∧ Inv base w' Pr bk st1 a N ∧ (∀ v0, (a.eval y).cells.toList = [v0] → w'.cell? ⟨bk (.bx k), off, none⟩ = some v0) := by
        intro p st1 hy hsz htup hset
        have hv := ev_pv I hy
        obtain ⟨hc1, hc2⟩ := hv.cells_rp (notTup_ne htup)
        have hl := hc1.length
        obtain ⟨cur, T, h1, h2, h3, h4, h5⟩ := I.setBox hset hc1 hc2
        exact ⟨_, he _ _ _ (ev_bp I heq) (run_storeVar_row' w _ off T t cur _ h1 h2 (by rw [← hl]; exact hsz.symm) hc2), h3, wr_setRow _ _ _ ⟨_, _, _, h1⟩, h4, h5, fun v0 h0 => by
          rw [cell_of_row _ _ _ _ _ _ (setRow_heap w _ _ _ _ _ h1), h0]
          rw [h0] at h2
          simp only [List.length_singleton] at h2
          simp only [List.getElem?_toArray, spliceV]
          rw [List.append_assoc, List.getElem?_append_right (by simp; omega)]
          simp [Nat.min_eq_left (show off ≤ cur.size by omega)]⟩
      split at h
      · rename_i u p hy
        split at h
        · rename_i hc
          simp only [Option.map_eq_some_iff] at h
          obtain ⟨s1, hset, h⟩ := h
          obtain ⟨w', hr, hb, hW, hK, hI, hcell⟩ := main p s1 hy hc.1 hc.2 hset
          have fin : ∀ bk', Inv base w' Pr bk' st' a N → (∀ j, bk' (.bx j) = bk (.bx j)) → EOk P base w Pr bk st a N o st' := fun bk' hI' hbk K Q hKK => by
            unfold Oper.wp; rw [hr]
            show K (a.put o.dst undef) w'
            rw [hput]
            exact hKK _ _ _ _ hI' (hW.below hb) hK (fun _ _ _ h => h) hW.ko (fun k _ => hbk k) rfl
          split at h
          · rename_i z hz hrow
            subst h
            -- the row goes over into the cell
            have hset0 := hset
            simp only [St.setBox, Option.bind_eq_some_iff] at hset
            obtain ⟨cs, hk, hset⟩ := hset
            split at hset
            · rename_i hle
              simp only [Option.some.injEq] at hset
              have hz0 : lookP st.gr (.s u) = some z := by
                rw [← hset] at hz; simp only at hz; rw [lookP_out] at hz; simpa [Pl.out] using hz
              obtain ⟨o2, n, cap, c, e1, e2, e3⟩ := I.grs u z hz0
              have hp : p = .sl z n c := by
                have : look st.sl u = some (.pv p) := hy
                rw [e1] at this; simpa using this.symm
              subst hp
              have q1 : look s1.bx k = some (splice cs off [.sl z n c]) := by rw [← hset]; simp [look, PV.cells]
              have q2 : (splice cs off [.sl z n c])[off]? = some (.sl z n c) := by
                simp only [PV.cells, List.length_singleton] at hle
                unfold splice
                rw [List.append_assoc, List.getElem?_append_right (by simp; omega)]
                simp [Nat.min_eq_left (show off ≤ cs.length by omega)]
              have q3 : w'.cell? ⟨bk (.bx k), off, none⟩ = a.tmps[u]? := by
                rw [e2]; refine hcell _ ?_
                rw [eval_tmp e2]; rfl
              have q4 : look s1.sl u = some (.pv (.sl z n c)) := by rw [← hset]; exact e1
              have q5 : ∀ t, look s1.tg t ≠ some (some (.c k off)) := by
                intro t' ht'
                rw [← hset] at ht'; simp only at ht'
                rw [look_map (killOut k off _) (fun _ x => x.bind fun p => if p.out k off _ then some p else none) (fun _ => rfl)] at ht'
                cases hm : look st.tg t' with
                | none => simp [hm] at ht'
                | some p0 =>
                  simp only [hm, Option.map_some, Option.some.injEq, Option.bind_eq_some_iff] at ht'
                  obtain ⟨p', _, ht'⟩ := ht'
                  split at ht'
                  · rename_i hout
                    simp only [Option.some.injEq] at ht'; subst ht'
                    simp [Pl.out, PV.cells] at hout
                  · simp at ht'
              obtain ⟨bk', hI', hbk⟩ := hI.grantC hz q1 q2 q3 q4 q5
              exact fin bk' hI' hbk
            · simp at hset
          · subst h; exact fin bk hI (fun _ => rfl)
        · simp at h
      · rename_i p hy1 hy
        split at h
        · rename_i hc
          obtain ⟨w', hr, hb, hW, hK, hI, _⟩ := main p st' hy hc.1 hc.2 h
          intro K Q hKK
          unfold Oper.wp; rw [hr]
          show K (a.put o.dst undef) w'
          rw [hput]
          exact hKK _ _ _ _ hI (hW.below hb) hK (fun _ _ _ h => h) hW.ko (fun _ _ => rfl) rfl
        · simp at h
      · simp at h
    · rename_i u off heq
      split at h
      · rename_i sz n cs p hu hp
        split at h
        · rename_i hc
          simp only [Option.some.injEq] at h; subst h
          obtain ⟨t', ⟨b, o2, n2, cap2, h1, h2⟩, h3⟩ := ev_rp I heq
          have hv := pv_rp I hp
          obtain ⟨hc1, hc2⟩ := hv.cells_rp (notTup_ne hc.2.1)
          obtain ⟨cur, T, e1, e2, e3, e4, e5⟩ := I.setEx hu hc.2.2 hc1 hc2 h1
          intro K Q hKK
          unfold Oper.wp
          rw [he _ _ _ h2 (run_storeVar_row' w _ _ T t cur _ e1 e2 (by rw [← hc1.length]; exact hc.1.symm) hc2)]
          show K (a.put o.dst undef) _
          rw [hput]
          exact hKK _ _ _ _ e5 ((wr_setRow _ _ _ ⟨_, _, _, e1⟩).below e3) e4 (fun _ _ _ h => h) (wr_setRow _ _ _ ⟨_, _, _, e1⟩).ko (fun _ _ => rfl) rfl
        · simp at h
      · simp at h
    · simp at h
  · simp at h
end
end Go.Proofs.YtibbgjafjhcemaaDoor.Cul
