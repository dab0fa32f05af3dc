/- Part of a proof by an abstract machine for the program's code: lemmas, without conditions of their own beyond those that each states. -/
import Derived.Test.YtibbgjafjhcemaaDoorM14
import Derived.Deep.Upon
set_option linter.unusedVariables false
set_option linter.unusedSimpArgs false
namespace Go.Proofs.YtibbgjafjhcemaaDoor.Cul
open Go Go.RowKit
section
variable {P : Program} {base : Nat} {w : World} {Pr : Prot} {bk : Key → Nat} {st : St} {a : Act} {N : Nat}
theorem size_zeroCells' (z : Array Value) (n s : Nat) (h : z.size = s) : (Builtin.zeroCells z n).size = n * s := by rw [size_zeroCells, h]
/-- Into the room behind the row. -/
theorem eok_inplace (I : Inv base w Pr bk st a N) {o : Oper} {d s n m cap b off : Nat} {old new : List PV} {olds news : List Value} {q : Pl} (hdst : o.dst = some d) (hd : d < N)
    (hq : grAt st q) (hqk : bk q.key = b) (hqx : ∀ t, q = .s t → ¬ exAt st t)
    (hro : RpL w Pr old olds) (ho1 : One olds) (hrn : RpL w Pr new news) (hn1 : One news) (hlo : old.length = n * s) (hln : new.length = m * s) (hro2 : w.rangeAt b off olds) (hpo : ∀ i, i < olds.length → Pr b (off + i))
    (hR : Room w Pr b off n cap s) (hfit : n + m ≤ cap)
    (he : (execOp a.eval o).run P w = .ok (.value (.slice (some ⟨b, off, none⟩) (n + m) cap)) (w.setCells b (off + n * s) news)) :
    EOk P base w Pr bk st a N o (({ st with gr := st.gr.filter (fun x => x.1 ≠ q), tg := st.tg.map (killT q) }).made (some d) { v := .pv (.sl s (n + m) (old ++ new)), gr := some s }) := by
  have hlive : live st q.key := by
    cases q with
    | s t => exact .inr hq
    | c k o => exact hq
  have hown := I.own _ hlive
  rw [hqk] at hown
  obtain ⟨cur, T, hc1, hc2⟩ := hR.there
  have hlenO := hro.length
  have hlenN := hrn.length
  have hmul : (n + m) * s ≤ cap * s := Nat.mul_le_mul_right _ hfit
  have hadd : (n + m) * s = n * s + m * s := Nat.add_mul ..
  have hle : off + n * s + news.length ≤ cur.size := by omega
  rw [setCells_eq news (off + n * s) cur w hc1 hle] at he
  have hW := wr_setRow w b (spliceV cur.toList (off + n * s) news).toArray ⟨_, _, _, hc1⟩
  have hh : (w.setRow b (spliceV cur.toList (off + n * s) news).toArray).heap[b]? = some (.cells (spliceV cur.toList (off + n * s) news).toArray T (0, 0)) := setRow_heap w _ _ _ _ _ hc1
  have hsz : (spliceV cur.toList (off + n * s) news).length = cur.size := by unfold spliceV; simp; omega
  have hcell : ∀ o', o' < off + n * s → (w.setRow b (spliceV cur.toList (off + n * s) news).toArray).cell? ⟨b, o', none⟩ = w.cell? ⟨b, o', none⟩ := fun o' ho' => by
    rw [cell_of_row _ _ _ _ _ _ hh, cell_of_row _ _ _ _ _ _ hc1]
    have := splice_get cur.toList (off + n * s) news (by simp; omega) o' (.inl ho')
    simpa [spliceV] using this
  obtain ⟨Pr', hP'⟩ : ∃ Pr' : Prot, ∀ b' o', Pr' b' o' ↔ (Pr b' o' ∨ (b' = b ∧ off + n * s ≤ o' ∧ o' < off + (n + m) * s)) := ⟨fun b' o' => _, fun _ _ => Iff.rfl⟩
  have hK : Kp w Pr (w.setRow b (spliceV cur.toList (off + n * s) news).toArray) Pr' := ⟨fun b' o' h => (hP' b' o').2 (.inl h), fun b' o' hp => by
    by_cases e : b' = b
    · subst e; exact hcell o' (hR.pr o' hp)
    · exact World.cell?_of_block (w := w) (hW.other b' e)⟩
  have I2 := (I.release q).wr_free hW hown.2 (fun x hx e => by
    obtain ⟨h1, h2⟩ := live_release hx hqx
    exact h2 (I.inj x q.key h1 hlive (by rw [e, hqk]))) hK (fun b' o' h hne => ((hP' b' o').1 h).resolve_right (fun h => hne h.1))
  have hrp : Rp (w.setRow b (spliceV cur.toList (off + n * s) news).toArray) Pr' (.sl s (n + m) (old ++ new)) (.slice (some ⟨b, off, none⟩) (n + m) cap) := by
    refine .sl ((RpL.mono hK hro).app (RpL.mono hK hrn)) (fun v hv => ?_) (by simp; omega) hfit (fun j v hj => ?_) (fun i hi => ?_)
    · simp only [List.mem_append] at hv; exact hv.elim (ho1 v) (hn1 v)
    · by_cases hjo : j < olds.length
      · rw [List.getElem?_append_left hjo] at hj
        rw [hcell (off + j) (by omega)]; exact hro2 j v hj
      · rw [List.getElem?_append_right (by omega)] at hj
        have hlt : j - olds.length < news.length := (List.getElem?_eq_some_iff.1 hj).1
        rw [cell_of_row _ _ _ _ _ _ hh]
        simp only [List.getElem?_toArray, spliceV]
        rw [List.append_assoc, List.getElem?_append_right (by simp; omega), List.getElem?_append_left (by simp; omega), ← hj]
        congr 1
        simp only [List.length_take, Array.length_toList]
        omega
    · simp only [List.length_append] at hi
      by_cases hio : i < olds.length
      · exact (hP' _ _).2 (.inl (hpo i hio))
      · exact (hP' _ _).2 (.inr ⟨rfl, by omega, by omega⟩)
  have hroom : Room (w.setRow b (spliceV cur.toList (off + n * s) news).toArray) Pr' b off (n + m) cap s :=
    ⟨hR.hz, hfit, ⟨_, _, hh, by simp [hsz]; exact hc2⟩, fun o' h => by
      rcases (hP' _ _).1 h with h | h
      · have := hR.pr o' h; omega
      · omega⟩
  have hm : MadeOk base (w.setRow b (spliceV cur.toList (off + n * s) news).toArray) Pr' bk { st with gr := st.gr.filter (fun x => x.1 ≠ q), tg := st.tg.map (killT q) } a { v := .pv (.sl s (n + m) (old ++ new)), gr := some s } (.slice (some ⟨b, off, none⟩) (n + m) cap) := by
    refine ⟨fun _ _ => hrp, fun _ _ _ h => by simp at h, fun z hz => ?_, fun q h => by simp at h⟩
    simp only [Option.some.injEq] at hz; subst hz
    refine ⟨b, off, n + m, cap, _, rfl, rfl, hroom, hown.1, by simpa using hown.2, fun x hx e => ?_⟩
    obtain ⟨h1, h2⟩ := live_release hx hqx
    exact h2 (I.inj x q.key h1 hlive (by rw [e, hqk]))
  obtain ⟨bk', hI, hbk⟩ := I2.made0 hd hm
  intro K Q hKK
  unfold Oper.wp
  rw [he]
  show K (a.put o.dst _) _
  rw [hdst]
  exact hKK _ _ _ _ hI (hW.below hown.1) hK (fun b' o' hb' h => ((hP' b' o').1 h).resolve_right (fun h => by omega)) hW.ko (fun k _ => hbk k) rfl
theorem eok_append (I : Inv base w Pr bk st a N) {o : Oper} {args : Array Operand} {ts : Array TypeId} {st' : St} (ho : o.op = .call { callee := .builtin .append, args := args, argTypes := ts }) (hN : ∀ d, o.dst = some d → d < N) (h : effect P o st = some st') : EOk P base w Pr bk st a N o st' := by
  simp only [effect, ho] at h
  rw [Option.bind_eq_some_iff] at h
  obtain ⟨d, hd, h⟩ := h
  split at h
  · rename_i x y T U ha hts
    split at h
    · rename_i e e' hT hU
      simp only [Option.bind_eq_some_iff] at h
      obtain ⟨s, hs, z, hz, p, hp, ⟨n, old⟩, hv, ⟨m, new⟩, hy, h⟩ := h
      split at h
      · rename_i hc
        obtain ⟨hc1, hc2, hc3, hc4, hc5, hc6⟩ := hc
        simp only at hc1 hc2 hc5 hc6
        obtain ⟨i, hi, his⟩ := sizeT_info hs
        obtain ⟨i', zv, hi', hzv, hzr⟩ := zeroT_rp (w := w) (Pr := Pr) hz
        rw [hi] at hi'; cases hi'
        have hzl : zv.cells.size = s := by
          obtain ⟨hzc, _⟩ := hzr.cells_rp (notTup_ne (zeroT_notTup hz))
          have := hzc.length
          rw [hc4] at this; simpa using this.symm
        obtain ⟨news, hn1, hn2, hsrc⟩ := src_of (P := P) I (Option.bind_eq_some_iff.2 hy) hc5 hU
        have hsrc' : Src P i.size U (a.eval y) m news w := by rw [his]; exact hsrc
        have hbytes : P.bytesOf e = i.bytes := by simp [Program.bytesOf, hi]
        rw [hbytes] at hc1
        unfold room at hc1 hc2
        have hvr := viewS_rp hv (pv_rp I hp)
        -- a new row
        have grow : ∀ (st2 : St) (I2 : Inv base w Pr bk st2 a N) (A : Option Addr) (cap : Nat) (olds : List Value), a.eval x = .slice A n cap → RpL w Pr old olds → One olds →
            (Builtin.firstCells i.size n (.slice A n cap)).run P w.drew = .ok olds.toArray w.drew → cap < n + m → EOk P base w Pr bk st a N o (st2.made (some d) { v := .pv (.sl s (n + m) (old ++ new)), gr := some s }) := by
          intro st2 I2 A cap olds hx hro hro1 hf hgt
          have hrun := run_append_grow_src w T U o.type e i zv hT hi hzv A n cap olds hf (a.eval y) m news hsrc' hgt (by omega) (growslice_fits hgt (by simpa using hc1))
          have hge := grownCap_ge w (n + m) cap e
          refine eok_grown (P := P) (c := grownCap w (n + m) cap e) (tail := Builtin.zeroCells zv.cells (grownCap w (n + m) cap e - (n + m))) (e := e) I2 hd (hN d hd) hc3 (hro.app hn1) (fun v hv => by simp only [List.mem_append] at hv; exact hv.elim (hro1 v) (hn2 v)) (by simp only [List.length_append]; rw [Nat.add_mul]; omega) hge (size_zeroCells' _ _ _ hzl) ?_
          refine exec_append ho ha hts ?_
          rw [hx]; exact hrun
        split at h
        · rename_i v0
          -- nil
          rcases hvr with ⟨rfl, rfl, hx⟩ | ⟨sz, b, o', cap, vs, hpe, _⟩
          · split at h
            · rename_i hm0
              simp only [Option.some.injEq] at h; subst h
              simp only at hm0; subst hm0
              have hnews : news = [] := List.eq_nil_of_length_eq_zero (by rw [← hn1.length]; simpa using hc5)
              subst hnews
              rw [made_put]
              refine eok_value I hd (hN d hd) (v := .slice none 0 0) ?_ (madeOk_pv (by have := pv_rp I hp; rw [hx] at this; exact this))
              refine exec_append ho ha hts ?_
              rw [hx]
              exact run_append_nothing w T U o.type e i hT hi none 0 0 (Nat.le_refl _) (a.eval y) hsrc'
            · rename_i hm0
              simp only [Option.some.injEq] at h; subst h
              simp only at hm0
              have := grow st I none 0 [] hx .nil (fun _ h => by simp at h) (run_firstCells_none _ _ _ _ _) (by omega)
              simpa using this
          · simp at hpe
        · rename_i hnl
          rcases hvr with ⟨rfl, rfl, hx⟩ | ⟨sz, b, off, cap, olds, hpe, hx, hro, hro1, hlo, hncap, hrng, hpr⟩
          · -- no row of one's own is nil
            split at h
            · rename_i t
              simp only [Option.map_eq_some_iff] at h
              obtain ⟨q, hq, h⟩ := h
              exfalso
              have hval : lookP st.gr q = some s ∧ (q = .s t ∨ st.tag t = some q) := by
                split at hq
                · rename_i hg; simp only [Option.some.injEq] at hq; subst hq; exact ⟨hg, .inl rfl⟩
                · split at hq
                  · rename_i q' htag
                    split at hq
                    · rename_i hg; simp only [Option.some.injEq] at hq; subst hq; exact ⟨hg, .inr htag⟩
                    · simp at hq
                  · simp at hq
              obtain ⟨v, hv1, _⟩ := I.slots t (.pv p) (pv_ev hp)
              have hxv : a.eval (.tmp t) = v := eval_tmp hv1
              rw [hx] at hxv
              have hplace : placeVal a w bk q = a.tmps[t]? := by
                rcases hval.2 with rfl | htag
                · rfl
                · simp only [St.tag, Option.bind_eq_some_iff, id] at htag
                  obtain ⟨_, h1, rfl⟩ := htag
                  exact I.tags t q h1 ⟨s, hval.1⟩
              cases q with
              | s u =>
                obtain ⟨_, _, _, _, _, e2, _⟩ := I.grs u s hval.1
                simp only [placeVal] at hplace; rw [e2, hv1, ← hxv] at hplace; simp at hplace
              | c k j =>
                obtain ⟨_, _, _, _, _, _, _, e2, _⟩ := I.grc k j s hval.1
                simp only [placeVal] at hplace; rw [e2, hv1, ← hxv] at hplace; simp at hplace
            · simp at h
          · split at h
            · rename_i t
              simp only [Option.map_eq_some_iff] at h
              obtain ⟨q, hq, rfl⟩ := h
              have hval : lookP st.gr q = some s ∧ (q = .s t ∨ st.tag t = some q) := by
                split at hq
                · rename_i hg; simp only [Option.some.injEq] at hq; subst hq; exact ⟨hg, .inl rfl⟩
                · split at hq
                  · rename_i q' htag
                    split at hq
                    · rename_i hg; simp only [Option.some.injEq] at hq; subst hq; exact ⟨hg, .inr htag⟩
                    · simp at hq
                  · simp at hq
              obtain ⟨v, hv1, _⟩ := I.slots t (.pv p) (pv_ev hp)
              have hxv : a.eval (.tmp t) = v := eval_tmp hv1
              have hplace : placeVal a w bk q = a.tmps[t]? := by
                rcases hval.2 with rfl | htag
                · rfl
                · simp only [St.tag, Option.bind_eq_some_iff, id] at htag
                  obtain ⟨_, h1, rfl⟩ := htag
                  exact I.tags t q h1 ⟨s, hval.1⟩
              rw [hv1, ← hxv, hx] at hplace
              have hgq : grAt st q := ⟨s, hval.1⟩
              obtain ⟨hqk, hR, hqx⟩ : bk q.key = b ∧ Room w Pr b off n cap s ∧ (∀ t, q = .s t → ¬ exAt st t) := by
                cases q with
                | s u =>
                  obtain ⟨o2, n2, cap2, c2, e1, e2, e3⟩ := I.grs u s hval.1
                  simp only [placeVal] at hplace
                  rw [e2] at hplace
                  simp only [Option.some.injEq, Value.slice.injEq, Addr.mk.injEq] at hplace
                  obtain ⟨⟨h1, rfl, _⟩, rfl, rfl⟩ := hplace
                  refine ⟨h1, by rw [← h1]; exact e3, fun t ht ⟨_, _, _, hx⟩ => ?_⟩
                  cases ht; rw [e1] at hx; simp at hx
                | c k j =>
                  obtain ⟨o2, n2, cap2, c2, bcs, e0, e1, e2, e3⟩ := I.grc k j s hval.1
                  simp only [placeVal] at hplace
                  rw [e2] at hplace
                  simp only [Option.some.injEq, Value.slice.injEq, Addr.mk.injEq] at hplace
                  obtain ⟨⟨h1, rfl, _⟩, rfl, rfl⟩ := hplace
                  exact ⟨h1, by rw [← h1]; exact e3, fun t ht => by simp at ht⟩
              by_cases hfit : n + m ≤ cap
              · refine eok_inplace (P := P) (b := b) (off := off) (cap := cap) I hd (hN d hd) hgq hqk hqx hro hro1 hn1 hn2 hc6 hc5 hrng hpr hR hfit ?_
                refine exec_append ho ha hts ?_
                rw [hx]
                obtain ⟨cur, T', hcur, hcs⟩ := hR.there
                have hmul : (n + m) * s ≤ cap * s := Nat.mul_le_mul_right _ hfit
                have hadd : (n + m) * s = n * s + m * s := Nat.add_mul ..
                have hnl2 : news.length = m * s := by rw [← hn1.length]; exact hc5
                have := run_append_room_src w T U o.type e i hT hi b off n cap (a.eval y) m news hsrc' hfit (fun j hj => by
                    rw [cell_of_row _ _ _ _ _ _ hcur, his]
                    rw [Array.getElem?_eq_getElem (by omega)]; rfl) (fun j hj => frozen_of_row _ _ _ _ _ hcur)
                rw [his] at this
                exact this
              · refine grow _ (I.release q) (some ⟨b, off, none⟩) cap olds hx hro hro1 ?_ (by omega)
                exact run_firstCells_some w.drew i.size n ⟨b, off, none⟩ n cap olds (by rw [his, ← hro.length]; exact hc6) (fun j v hj => by rw [Addr.add_mid]; exact hrng j v hj)
            · simp at h
      · simp at h
    · simp at h
  · simp at h
theorem zerosOf_take {α : Type} (z : List α) : ∀ (n m : Nat), n ≤ m → (zerosOf z m).take (n * z.length) = zerosOf z n
  | 0, m, h => by simp [zerosOf]
  | n + 1, 0, h => by omega
  | n + 1, m + 1, h => by
    simp only [zerosOf, Nat.add_mul, Nat.one_mul]
    rw [List.take_append, List.take_of_length_le (by omega), show n * z.length + z.length - z.length = n * z.length by omega, zerosOf_take z n m (by omega)]
theorem zerosOf_mem {α : Type} {z : List α} : ∀ n v, v ∈ zerosOf z n → v ∈ z
  | 0, v, h => by simp [zerosOf] at h
  | n + 1, v, h => by
    simp only [zerosOf, List.mem_append] at h
    exact h.elim id (zerosOf_mem n v)
theorem eok_makeSlice (I : Inv base w Pr bk st a N) {o : Oper} {t : TypeId} {l c : Operand} {st' : St} (ho : o.op = .makeSlice t l c) (hN : ∀ d, o.dst = some d → d < N) (h : effect P o st = some st') : EOk P base w Pr bk st a N o st' := by
  simp only [effect, ho] at h
  rw [Option.bind_eq_some_iff] at h
  obtain ⟨d, hd, h⟩ := h
  split at h
  · rename_i e n m hu hl hc
    rw [Option.bind_eq_some_iff] at h
    obtain ⟨s, hs, h⟩ := h
    rw [Option.bind_eq_some_iff] at h
    obtain ⟨z, hz, h⟩ := h
    split at h
    · rename_i hcond
      obtain ⟨hn0, hnm, hb, hm, hzl, hs0⟩ := hcond
      obtain ⟨kn, hkn⟩ := int_eq I hl
      obtain ⟨km, hkm⟩ := int_eq I hc
      obtain ⟨i, hi, his⟩ := sizeT_info hs
      obtain ⟨i', zv, hi', hzv, hzr⟩ := zeroT_rp (w := w) (Pr := Pr) hz
      rw [hi] at hi'; cases hi'
      obtain ⟨hzc, hz1⟩ := hzr.cells_rp (notTup_ne (zeroT_notTup hz))
      have hzs : zv.cells.size = s := by have := hzc.length; rw [hzl] at this; simpa using this.symm
      have hbytes : P.bytesOf e = i.bytes := by simp [Program.bytesOf, hi]
      rw [hbytes] at hb
      unfold room at hb hm
      have hwn : IntKind.i64.wrap n = n := IntWalk.i64_in _ (by omega)
      have hwm : IntKind.i64.wrap m = m := IntWalk.i64_in _ (by omega)
      have hbm : (i.bytes : Int) * m ≤ 140737488355328 := by rw [Int.mul_comm]; exact hb
      have hbn : (i.bytes : Int) * n ≤ 140737488355328 := Int.le_trans (Int.mul_le_mul_of_nonneg_left hnm (by omega)) hbm
      have hze : ((Array.range (m.toNat * s)).map (zv.cells[· % zv.cells.size]!)) = (zerosOf zv.cells.toList m.toNat).toArray := by rw [← hzs]; exact zeros_eq _ _
      have hrun : (execOp a.eval o).run P w = .ok (.value (.slice (some ⟨w.heap.size, 0, none⟩) n.toNat m.toNat)) (w.alloc (.cells (zerosOf zv.cells.toList m.toNat).toArray e)) := by
        simp only [execOp, ho, hkn, hkm]
        refine run_v ?_
        have hnr := run_newRow (P := P) e (zerosOf zv.cells.toList m.toNat).toArray w
        have h1 : ¬ (m < 0) := by omega
        have h2 : ¬ (281474976710656 < (i.bytes : Int) * m) := by omega
        have h3 : ¬ (n < 0) := by omega
        have h4 : ¬ (m < n) := by omega
        have hroom : (askRoom (m.toNat * i.bytes)).run P w = .ok () w := by
          unfold askRoom; split <;> rfl
        have hT : (underlying t).run P w = .ok (.slice e) w := run_under hu w
        have hzv' : (zeroValue e).run P w = .ok zv w := by simp [zeroValue, typeInfo, hi, hzv]
        have hcnd : ¬ (decide (m < 0) || decide (↑i.bytes * m > 2 ^ 48) || decide (n < 0) || decide (n > m)) = true := by
          simp only [Bool.or_eq_true, decide_eq_true_eq, not_or]
          refine ⟨⟨⟨h1, ?_⟩, h3⟩, ?_⟩ <;> omega
        unfold Instr.makeSlice
        rw [Sem.run_bind, hT, Result.andThen_ok]
        simp only [Sem.run_bind, asInt, asIntOf, typeInfo, program, Sem.run, hi, hwn, hwm, Sem.run_pure, Result.andThen_ok]
        rw [if_neg hcnd]
        simp only [Sem.run_bind, Sem.run_pure, Result.andThen_ok, hroom, run_sizeT hs]
        by_cases hm0 : m.toNat * s = 0
        · have : m.toNat = 0 := (Nat.mul_eq_zero.1 hm0).resolve_right (by omega)
          simp only [if_pos hm0, Sem.run_bind, Sem.run_pure, Result.andThen_ok]
          rw [this] at hnr ⊢
          simp only [Nat.zero_mul, zerosOf] at hnr ⊢
          have hr0 : (Array.map (fun x => (#[] : Array Value)[x % (#[] : Array Value).size]!) (Array.range 0)) = #[] := by simp
          rw [hr0]
          rw [hnr]; rfl
        · simp only [if_neg hm0, Sem.run_bind, Sem.run_pure, Result.andThen_ok, hzv', hze, hnr]
      have hf := fw_alloc0 I (.cells (zerosOf zv.cells.toList m.toNat).toArray e)
      have hh : (w.alloc (.cells (zerosOf zv.cells.toList m.toNat).toArray e)).heap[w.heap.size]? = some (.cells (zerosOf zv.cells.toList m.toNat).toArray e (0, 0)) := heap_alloc w _
      have hzl2 : (zerosOf zv.cells.toList m.toNat).length = m.toNat * s := by rw [zerosOf_length]; simp [hzs]
      have hroom2 : ∀ k, k ≤ m.toNat → Room (w.alloc (.cells (zerosOf zv.cells.toList m.toNat).toArray e)) Pr w.heap.size 0 k m.toNat s := fun k hk =>
        ⟨hs0, hk, ⟨_, _, hh, by simp [hzl2]⟩, fun o' h => absurd (I.prot _ _ h) (by omega)⟩
      have hfree : ∀ x, live st x → bk x ≠ w.heap.size := fun x hx e => by have := (I.own x hx).2; omega
      have fin : ∀ (mm : Made), MadeOk base (w.alloc (.cells (zerosOf zv.cells.toList m.toNat).toArray e)) Pr bk st a mm (.slice (some ⟨w.heap.size, 0, none⟩) n.toNat m.toNat) → EOk P base w Pr bk st a N o (st.made (some d) mm) := by
        intro mm hm K Q hK
        obtain ⟨bk', hI, hbk⟩ := (I.fw hf).made0 (hN d hd) hm
        unfold Oper.wp
        rw [hrun]
        show K (a.put o.dst _) _
        rw [hd]
        exact hK _ _ _ _ hI (hf.bel.mono I.hb) (hf.kp I.prot) (fun b o hb h => hf.old b o (Nat.lt_of_lt_of_le hb I.hb) h) hf.ko (fun k _ => hbk k) rfl
      split at h
      · rename_i hn00
        simp only [Option.some.injEq] at h; subst h
        subst hn00
        refine fin _ ⟨fun _ _ => ?_, fun _ _ _ h => by simp at h, fun z' hz' => ?_, fun q h => by simp at h⟩
        · exact Rp.sl (vs := []) .nil (by simp) (by simp) (by simp) (fun j v hj => by simp at hj) (fun i hi => by simp at hi)
        · simp only [Option.some.injEq] at hz'; subst hz'
          exact ⟨w.heap.size, 0, 0, m.toNat, [], rfl, rfl, hroom2 0 (by omega), I.hb, by simp, hfree⟩
      · simp only [Option.some.injEq] at h; subst h
        rw [made_put]
        refine fin _ ⟨fun h => absurd rfl (h _ _ _), fun sz' n' cs' h => ?_, fun z' hz' => by simp at hz', fun q h => by simp at h⟩
        cases h
        refine ⟨rfl, w.heap.size, 0, m.toNat, zerosOf zv.cells.toList n.toNat, rfl, ?_, ?_, ?_, ?_, hroom2 _ (by omega), fun o' h => absurd (I.prot _ _ h) (by omega), I.hb, by simp, hfree⟩
        · exact RpL.mono (hf.kp I.prot) (zerosOf_rp hzc n.toNat)
        · intro v hv
          exact hz1 v (zerosOf_mem n.toNat v hv)
        · rw [zerosOf_length, hzl]
        · intro j v hj
          rw [Nat.zero_add, cell_of_row _ _ _ _ _ _ hh]
          have htk := zerosOf_take zv.cells.toList n.toNat m.toNat (by omega)
          rw [← htk] at hj
          rw [List.getElem?_take] at hj
          split at hj
          · simpa using hj
          · simp at hj
    · simp at h
  · simp at h
end
end Go.Proofs.YtibbgjafjhcemaaDoor.Cul
