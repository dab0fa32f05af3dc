/- Part of a proof by an abstract machine for the program's code: lemmas, without conditions of their own beyond those that each states. -/
import Derived.Test.YtibbgjafjhcemaaDoorM8
set_option linter.unusedVariables false
set_option linter.unusedSimpArgs false
namespace Go.Proofs.YtibbgjafjhcemaaDoor.Cul
open Go Go.RowKit
section
variable {P : Program} {base : Nat} {w : World} {Pr : Prot} {bk : Key → Nat} {st : St} {a : Act} {N : Nat}
theorem partsOf_rp (I : Inv base w Pr bk st a N) : ∀ {l : List (Nat × Operand)} {ps : List (Nat × PV)}, partsOf st l = some ps → PartsRp w Pr ps (l.map fun x => (x.1, a.eval x.2))
  | [], ps, h => by simp [partsOf] at h; subst h; exact .nil
  | (i, x) :: l, ps, h => by
    simp only [partsOf, Option.bind_eq_some_iff] at h
    obtain ⟨p, hp, h⟩ := h
    split at h
    · simp at h
    · rename_i ht
      simp only [Option.map_eq_some_iff] at h
      obtain ⟨qs, hq, rfl⟩ := h
      exact .cons (pv_rp I hp) (by simpa using ht) (partsOf_rp I hq)
theorem placesOf_eq (P : Program) : ∀ (l : List Field) (pl : List (Nat × Nat)), placesOf P l = some pl → l.mapM (fun f => (P.info? f.type).map fun i => (f.offset, i.size)) = some pl
  | [], pl, h => by simp [placesOf] at h; subst h; rfl
  | f :: l, pl, h => by
    simp only [placesOf, Option.bind_eq_some_iff, Option.map_eq_some_iff] at h
    obtain ⟨s, hs, q, hq, rfl⟩ := h
    obtain ⟨i, h1, h2⟩ := sizeT_info hs
    simp [List.mapM_cons, h1, h2, placesOf_eq P l q hq]
theorem zeroT_rp {t : TypeId} {z : PV} (h : zeroT P t = some z) : ∃ i v, P.info? t = some i ∧ i.zero = some v ∧ Rp w Pr z v := by
  simp only [zeroT, Option.bind_eq_some_iff] at h
  obtain ⟨v, ⟨i, h1, h2⟩, h3⟩ := h
  exact ⟨i, v, h1, h2, pvOf_rp h3⟩
theorem pvOf_notTup {v : Value} {p : PV} (h : pvOf v = some p) : isTup p = false := by
  unfold pvOf at h
  split at h
  · simp only [Option.map_eq_some_iff] at h; obtain ⟨_, _, rfl⟩ := h; rfl
  · split at h
    · simp at h; subst h; rfl
    · simp at h
theorem zeroT_notTup {t : TypeId} {z : PV} (h : zeroT P t = some z) : isTup z = false := by
  simp only [zeroT, Option.bind_eq_some_iff] at h
  obtain ⟨v, _, h3⟩ := h
  exact pvOf_notTup h3
theorem notTup_ne {p : PV} (h : isTup p = false) : ∀ vs, p ≠ .tup vs := fun vs e => by rw [e] at h; simp [isTup] at h
theorem qok_build (I : Inv base w Pr bk st a N) {o : Oper} {m : Made} {call : Nat → List PV → Option RV} {t : TypeId} {parts : Array (Nat × Operand)} (ho : o.op = .build t parts) (h : quiet P call o st = some m) : QOk P base w Pr bk st a o m := by
  simp only [quiet, ho] at h
  split at h
  · rename_i z ps hz hps
    have hparts := partsOf_rp I hps
    obtain ⟨i, zv, hi, hzv, hzr⟩ := zeroT_rp (w := w) (Pr := Pr) hz
    have hpl : (parts.map fun (i, x) => (i, a.eval x)).toList = parts.toList.map fun x => (x.1, a.eval x.2) := by simp
    have fin : ∀ out vs, RpL w Pr out vs → One vs → P.built t (parts.toList.map fun x => (x.1, a.eval x.2)) = some vs.toArray → QOk P base w Pr bk st a o { v := .pv (.ag out) } := fun out vs h1 h2 h3 => by
      refine qok_value I (v := .agg vs.toArray) ?_ (madeOk_pv (.ag h1 h2))
      simp only [execOp, ho]
      refine run_v (run_build w t _ _ ?_)
      rw [hpl]; exact h3
    generalize hzz : zv = zz at hzr
    cases hzr with
    | ag hzl hz1 =>
      split at h
      · rename_i fs hu
        rw [Option.bind_eq_some_iff] at h
        obtain ⟨pl, hpl2, h⟩ := h
        simp only [Option.map_eq_some_iff] at h
        obtain ⟨out, hf, rfl⟩ := h
        obtain ⟨us, h1, h2, h3⟩ := fillPV_rp hparts hf hzl hz1
        refine fin out us h2 h3 ?_
        have hpe := placesOf_eq P _ _ hpl2
        simp only [Program.built, hi, hu, hzv, hzz, hpe]
        rw [← h1]; simp [Value.cells]
      · rename_i n e hu
        rw [Option.bind_eq_some_iff] at h
        obtain ⟨s, hs, h⟩ := h
        simp only [Option.map_eq_some_iff] at h
        obtain ⟨out, hf, rfl⟩ := h
        obtain ⟨us, h1, h2, h3⟩ := fillPV_rp hparts hf hzl hz1
        refine fin out us h2 h3 ?_
        obtain ⟨ie, hie, hies⟩ := sizeT_info hs
        simp only [Program.built, hi, hu, hzv, hzz, hie, hies]
        rw [← h1]; simp [Value.cells]
      · simp at h
  · simp at h
/-! zeros -/
theorem zerosOf_rp {z : List PV} {zv : List Value} (h : RpL w Pr z zv) : ∀ n, RpL w Pr (zerosOf z n) (zerosOf zv n)
  | 0 => .nil
  | n + 1 => h.app (zerosOf_rp h n)
theorem zerosOf_one {zv : List Value} (h : One zv) : ∀ n, One (zerosOf zv n)
  | 0 => fun v hv => by simp [zerosOf] at hv
  | n + 1 => fun v hv => by
    simp only [zerosOf, List.mem_append] at hv
    rcases hv with hv | hv
    · exact h v hv
    · exact zerosOf_one h n v hv
theorem zerosOf_length {α : Type} (z : List α) : ∀ n, (zerosOf z n).length = n * z.length
  | 0 => by simp [zerosOf]
  | n + 1 => by simp [zerosOf, zerosOf_length z n, Nat.add_mul, Nat.add_comm]
theorem zerosOf_get {α : Type} (z : List α) : ∀ (n i : Nat), i < n * z.length → (zerosOf z n)[i]? = z[i % z.length]?
  | 0, i, h => by simp at h
  | n + 1, i, h => by
    simp only [zerosOf]
    by_cases hi : i < z.length
    · rw [List.getElem?_append_left hi, Nat.mod_eq_of_lt hi]
    · rw [List.getElem?_append_right (by omega), zerosOf_get z n (i - z.length) (by rw [Nat.add_mul] at h; omega)]
      congr 1
      rw [← Nat.mod_eq_sub_mod (by omega)]
theorem zeros_eq (zv : Array Value) (n : Nat) : ((Array.range (n * zv.size)).map (zv[· % zv.size]!)) = (zerosOf zv.toList n).toArray := by
  apply Array.ext'
  apply List.ext_getElem?
  intro i
  have hl : zv.toList.length = zv.size := by simp
  by_cases hi : i < n * zv.size
  · have hlt : i % zv.size < zv.size := Nat.mod_lt _ (by rcases Nat.eq_zero_or_pos zv.size with h | h <;> simp_all)
    have := zerosOf_get zv.toList n i (by rw [hl]; exact hi)
    rw [show (zerosOf zv.toList n).toArray.toList = zerosOf zv.toList n from rfl, this, hl]
    simp [hi, getElem!_pos, hlt]
  · rw [List.getElem?_eq_none (by simpa using hi), List.getElem?_eq_none (by simp [zerosOf_length]; omega)]
/-- A new block behind all others. -/
theorem fw_alloc (I : Inv base w Pr bk st a N) (ob : Obj) (n : Nat) : Fw w Pr (w.alloc ob) (fun b o => Pr b o ∨ (b = w.heap.size ∧ o < n)) :=
  ⟨(Below.refl _ _).alloc (Nat.le_refl _) _, fun b o h => .inl h, fun b o hb h => h.resolve_right (fun h => by omega), fun b o h => by
    simp only [World.size_alloc]
    rcases h with h | h
    · have := I.prot b o h; omega
    · omega⟩
theorem heap_alloc (w : World) (ob : Obj) : (w.alloc ob).heap[w.heap.size]? = some ob := heap_alloc_new w ob
/-- A row in a new block: told, and with room as far as the block goes. -/
theorem rp_newrow (I : Inv base w Pr bk st a N) {cs : List PV} {vs : List Value} {sz n : Nat} {T : TypeId} (hr : RpL w Pr cs vs) (h1 : One vs) (hl : cs.length = n * sz) :
    Rp (w.alloc (.cells vs.toArray T)) (fun b o => Pr b o ∨ (b = w.heap.size ∧ o < n * sz)) (.sl sz n cs) (.slice (some ⟨w.heap.size, 0, none⟩) n n) := by
  have hf := fw_alloc I (.cells vs.toArray T) (n * sz)
  have hlen := hr.length
  refine .sl (RpL.mono (hf.kp I.prot) hr) h1 hl (Nat.le_refl _) (fun j v hj => ?_) (fun i hi => .inr ⟨rfl, by omega⟩)
  rw [cell_of_row _ _ _ _ _ _ (heap_alloc w _)]
  simpa using hj
theorem room_newrow (I : Inv base w Pr bk st a N) {vs : List Value} {sz n : Nat} {T : TypeId} (hsz : 0 < sz) (hl : vs.length = n * sz) :
    Room (w.alloc (.cells vs.toArray T)) (fun b o => Pr b o ∨ (b = w.heap.size ∧ o < n * sz)) w.heap.size 0 n n sz :=
  ⟨hsz, Nat.le_refl _, ⟨_, _, heap_alloc w _, by simp [hl]⟩, fun o' h => by
    rcases h with h | h
    · exact absurd (I.prot _ _ h) (by omega)
    · omega⟩
theorem run_newRow (T : TypeId) (c : Array Value) (w : World) : (newRow T c).run P w = .ok ⟨w.heap.size, 0, none⟩ (w.alloc (.cells c T)) := by
  rfl
theorem qok_buildSlice (I : Inv base w Pr bk st a N) {o : Oper} {m : Made} {call : Nat → List PV → Option RV} {t : TypeId} {len : Nat} {parts : Array (Nat × Operand)} (ho : o.op = .buildSlice t len parts) (h : quiet P call o st = some m) : QOk P base w Pr bk st a o m := by
  simp only [quiet, ho] at h
  split at h
  · rename_i e hu
    rw [Option.bind_eq_some_iff] at h
    obtain ⟨s, hs, h⟩ := h
    rw [Option.bind_eq_some_iff] at h
    obtain ⟨z, hz, h⟩ := h
    split at h
    · rename_i hcond
      rw [Option.bind_eq_some_iff] at h
      obtain ⟨ps, hps, h⟩ := h
      simp only [Option.map_eq_some_iff] at h
      obtain ⟨out, hf, rfl⟩ := h
      obtain ⟨i, zv, hi, hzv, hzr⟩ := zeroT_rp (w := w) (Pr := Pr) hz
      obtain ⟨hzc, hz1⟩ := hzr.cells_rp (notTup_ne (zeroT_notTup hz))
      have hzl := hzc.length
      have hsz : zv.cells.size = s := by rw [← hcond.2, hzl]; simp
      obtain ⟨us, h1, h2, h3⟩ := fillPV_rp (partsOf_rp I hps) hf (zerosOf_rp hzc len) (zerosOf_one hz1 len)
      have hus : us.length = len * s := by
        have := h2.length
        have hout : ∀ {l : List (Nat × PV)} {c d : List PV}, fillPV (fun i => some (i * s, s)) c l = some d → d.length = c.length := by
          intro l
          induction l with
          | nil => intro c d h; simp [fillPV] at h; subst h; rfl
          | cons x l ih =>
            intro c d h
            simp only [fillPV] at h
            split at h
            · simp at h
            · rename_i hc2
              rw [ih h]
              simp only [splice, List.length_append, List.length_take, List.length_drop]
              omega
        rw [← this, hout hf, zerosOf_length, hcond.2]
      intro K Q hK
      have hrun : (execOp a.eval o).run P w = .ok (.value (.slice (some ⟨w.heap.size, 0, none⟩) len len)) (w.alloc (.cells us.toArray e)) := by
        simp only [execOp, ho]
        refine run_v ?_
        have hze : ((Array.range (len * s)).map (zv.cells[· % zv.cells.size]!)) = (zerosOf zv.cells.toList len).toArray := by rw [← hsz]; exact zeros_eq _ _
        have hpl : (parts.map fun (i, x) => (i, a.eval x)).toList = parts.toList.map fun x => (x.1, a.eval x.2) := by simp
        have hno : ¬ 16777216 < len * s := by have := hcond.1; omega
        simp only [Instr.buildSlice, Sem.run_bind, run_under hu, Result.andThen_ok, run_sizeT hs]
        have h1' : Instr.fill (fun i => some (i * s, s)) (zerosOf zv.cells.toList len).toArray (Array.map (fun x => (x.fst, a.eval x.snd)) parts).toList = some us.toArray := by
          rw [Array.toList_map]; exact h1
        rw [if_neg (by simpa using hno)]
        have hnr := run_newRow (P := P) e us.toArray w
        by_cases h0 : len * s = 0
        · rw [if_pos h0]
          have he0 : (zerosOf zv.cells.toList len).toArray = #[] := by
            have : (zerosOf zv.cells.toList len).length = 0 := by rw [zerosOf_length]; simp [hsz, h0]
            simp [List.length_eq_zero_iff.1 this]
          rw [he0] at h1'
          simp only [Sem.run_bind, Sem.run_pure, Result.andThen_ok, h0]
          have hr0 : Array.range 0 = #[] := rfl
          simp only [hr0, List.map_toArray, List.map_nil, h1', Sem.run_bind, hnr, Result.andThen_ok, Sem.run_pure]
        · rw [if_neg h0]
          simp only [Sem.run_bind, Sem.run_pure, Result.andThen_ok, zeroValue, typeInfo, program, Sem.run, hi, hzv, hze, h1', hnr]
      unfold Oper.wp
      rw [hrun]
      refine hK _ _ _ (fw_alloc I _ (len * s)) ⟨fun _ _ => rp_newrow I h2 h3 (by rw [h2.length]; exact hus), fun _ _ _ h => by simp at h, fun z' hz' => ?_, fun q h => by simp at h⟩
      simp only at hz'
      split at hz'
      · simp at hz'
      · rename_i hns
        simp only [Option.some.injEq] at hz'; subst hz'
        simp only [not_or] at hns
        exact ⟨w.heap.size, 0, len, len, out, rfl, rfl, room_newrow I (by omega) hus, I.hb, by simp, fun x hx => by have := (I.own x hx).2; omega⟩
    · simp at h
  · simp at h
end
end Go.Proofs.YtibbgjafjhcemaaDoor.Cul
