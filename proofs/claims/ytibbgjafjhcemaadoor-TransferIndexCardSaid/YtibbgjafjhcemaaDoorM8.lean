/- Part of a proof by an abstract machine for the program's code: lemmas, without conditions of their own beyond those that each states. -/
import Derived.Test.YtibbgjafjhcemaaDoorM7
set_option linter.unusedVariables false
set_option linter.unusedSimpArgs false
namespace Go.Proofs.YtibbgjafjhcemaaDoor.Cul
open Go Go.RowKit
section
variable {P : Program} {base : Nat} {w : World} {Pr : Prot} {bk : Key → Nat} {st : St} {a : Act} {N : Nat}

theorem qok_slice (I : Inv base w Pr bk st a N) {o : Oper} {m : Made} {call : Nat → List PV → Option RV} {t : TypeId} {x : Operand} {lo hi mx : Option Operand} (ho : o.op = .slice t x lo hi mx) (h : quiet P call o st = some m) : QOk P base w Pr bk st a o m := by
  simp only [quiet, ho] at h
  split at h
  · rename_i sz n cs heq
    split at h
    · rename_i e hu
      split at h
      · rename_i hsz
        rw [Option.bind_eq_some_iff] at h
        obtain ⟨hh, hhi, h⟩ := h
        rw [Option.bind_eq_some_iff] at h
        obtain ⟨ll, hlo, h⟩ := h
        split at h
        · rename_i hb
          obtain ⟨hb0, hb1, hb2⟩ := hb
          simp only [Option.some.injEq] at h; subst h
          have hv := pv_rp I heq
          -- the bounds, as the model reckons them
          have hbnd : ∀ cap, n ≤ cap → (Instr.sliceBounds true n cap (lo.map a.eval) (hi.map a.eval) none).run P w = .ok (ll.toNat, hh.toNat, cap) w := by
            intro cap hcap
            have h1 : ∀ (k : IntKind), (Instr.sliceBound (.int k hh) cap .sliceAcap).run P w = .ok hh.toNat w := fun k => by
              simp [Instr.sliceBound, asIntOf, show 0 ≤ hh by omega, show hh ≤ (cap : Int) by omega]
            have h2 : ∀ (k : IntKind), (Instr.sliceBound (.int k ll) hh.toNat .sliceB).run P w = .ok ll.toNat w := fun k => by
              simp [Instr.sliceBound, asIntOf, show 0 ≤ ll by omega, show ll ≤ (hh.toNat : Int) by omega, show ll ≤ max hh 0 by omega]
            cases hi with
            | none =>
              simp only [Option.some.injEq] at hhi; subst hhi
              cases lo with
              | none => simp only [Option.some.injEq] at hlo; subst hlo; simp [Instr.sliceBounds]
              | some y => obtain ⟨k, hk⟩ := int_eq I hlo; have h2' := h2 k; simp only [Int.toNat_natCast] at h2'; simp [Instr.sliceBounds, hk, h2']
            | some z =>
              obtain ⟨k, hk⟩ := int_eq I hhi
              cases lo with
              | none => simp only [Option.some.injEq] at hlo; subst hlo; simp [Instr.sliceBounds, hk, h1]
              | some y => obtain ⟨k', hk'⟩ := int_eq I hlo; simp [Instr.sliceBounds, hk, h1, hk', h2]
          have he : ∀ A cap, n ≤ cap → a.eval x = .slice A n cap → (execOp a.eval o).run P w = .ok (.value (.slice (if cap = ll.toNat then A else A.map (·.add (ll.toNat * sz))) (hh.toNat - ll.toNat) (cap - ll.toNat))) w := by
            intro A cap hcap hx
            simp only [execOp, ho, hx]
            refine run_v ?_
            simp [Instr.sliceAt, Instr.slice, run_under hu, hbnd cap hcap, run_sizeT hsz]
          generalize hxe : a.eval x = v at hv
          cases hv with
          | sl0 =>
            obtain rfl : ll = 0 := by omega
            obtain rfl : hh = 0 := by omega
            refine qok_value I (he _ _ (Nat.le_refl _) hxe) (madeOk_pv ?_)
            simp; exact .sl0
          | sl hr h1 hl hn hc hp =>
            rename_i cap b o' vs
            refine qok_value I (he _ _ hn hxe) (madeOk_pv ?_)
            have hlen := hr.length
            have hmul : hh.toNat * sz ≤ n * sz := Nat.mul_le_mul_right _ (by omega)
            have hsub : (hh.toNat - ll.toNat) * sz = hh.toNat * sz - ll.toNat * sz := Nat.sub_mul ..
            have hlm : ll.toNat * sz ≤ hh.toNat * sz := Nat.mul_le_mul_right _ (by omega)
            by_cases hcl : cap = ll.toNat
            · rw [if_pos hcl]
              have h0 : hh.toNat - ll.toNat = 0 := by omega
              rw [h0]
              have := Rp.sl (w := w) (Pr := Pr) (sz := sz) (n := 0) (cap := cap - ll.toNat) (b := b) (o := o') .nil (by simp) (by simp) (Nat.zero_le _) (fun j v hj => by simp at hj) (fun i hi => by simp at hi)
              simpa using this
            · rw [if_neg hcl]
              simp only [Option.map_some, Addr.add_mid]
              refine .sl ((hr.drop _).take _) (fun v hv => h1 v (List.mem_of_mem_drop (List.mem_of_mem_take hv))) ?_ (by omega) (rangeAt_take (rangeAt_drop hc _) _) (fun i hi => ?_)
              · simp only [List.length_take, List.length_drop]; omega
              · rw [Nat.add_assoc]; refine hp _ ?_; simp at hi; omega
        · simp at h
      · simp at h
    · simp at h
  · rename_i p hne heq
    rw [Option.bind_eq_some_iff] at h
    obtain ⟨v, hv, h⟩ := h
    have hx := valOf_rp hv (pv_rp I heq)
    split at h
    · refine qok_pure I ?_ h; simp only [execOp, ho, hx]; rfl
    · rw [Option.bind_eq_some_iff] at h
      obtain ⟨l, hl, h⟩ := h
      refine qok_pure I ?_ h; simp only [execOp, ho, hx, Option.map_some, val_eq I hl]; rfl
    · rw [Option.bind_eq_some_iff] at h
      obtain ⟨l, hl, h⟩ := h
      refine qok_pure I ?_ h; simp only [execOp, ho, hx, Option.map_some, val_eq I hl]; rfl
    · rw [Option.bind_eq_some_iff] at h
      obtain ⟨l, hl, h⟩ := h
      rw [Option.bind_eq_some_iff] at h
      obtain ⟨l', hl', h⟩ := h
      refine qok_pure I ?_ h; simp only [execOp, ho, hx, Option.map_some, val_eq I hl, val_eq I hl']; rfl
    · simp at h
  · simp at h
theorem bytesOf_rp : ∀ {cs : List PV} {l : List UInt8} {vs : List Value}, bytesOf cs = some l → RpL w Pr cs vs → ∃ xs : List Int, vs = xs.map (Value.int .u8) ∧ l = xs.map fun n => UInt8.ofNat n.toNat
  | [], l, vs, h, k => by simp [bytesOf] at h; cases k; subst h; exact ⟨[], rfl, rfl⟩
  | .lit v :: cs, l, vs, h, k => by
    cases k with
    | cons h1 h2 =>
      cases h1
      unfold bytesOf at h
      split at h
      · simp at *
      · rename_i n cs' heq
        simp only [List.cons.injEq, PV.lit.injEq] at heq
        obtain ⟨rfl, rfl⟩ := heq
        simp only [Option.map_eq_some_iff] at h
        obtain ⟨q, hq, rfl⟩ := h
        obtain ⟨xs, rfl, rfl⟩ := bytesOf_rp hq h2
        exact ⟨n :: xs, rfl, rfl⟩
      · simp at h
  | .sl .. :: _, l, vs, h, k => by simp [bytesOf] at h
  | .el .. :: _, l, vs, h, k => by simp [bytesOf] at h
  | .fn .. :: _, l, vs, h, k => by simp [bytesOf] at h
  | .ag .. :: _, l, vs, h, k => by simp [bytesOf] at h
  | .tup .. :: _, l, vs, h, k => by simp [bytesOf] at h
theorem qok_convert (I : Inv base w Pr bk st a N) {o : Oper} {m : Made} {call : Nat → List PV → Option RV} {src dst : TypeId} {x : Operand} (ho : o.op = .convert src dst x) (h : quiet P call o st = some m) : QOk P base w Pr bk st a o m := by
  simp only [quiet, ho] at h
  split at h
  · rename_i n cs heq
    split at h
    · rename_i e hs hd
      split at h
      · rename_i he
        simp only [Option.map_eq_some_iff] at h
        obtain ⟨l, hl, rfl⟩ := h
        have hv := pv_rp I heq
        generalize hx : a.eval x = v at hv
        cases hv with
        | sl0 =>
          simp [bytesOf] at hl; subst hl
          refine qok_value I (v := .string ByteArray.empty) ?_ (madeOk_pv ?_)
          · simp only [execOp, ho, hx]; exact run_v (run_convert_bytes_nil w src e hs he 0 0 dst hd)
          · exact Rp.lit rfl
        | sl hr h1 hlen hn hc hp =>
          obtain ⟨xs, rfl, rfl⟩ := bytesOf_rp hl hr
          have hl2 := hr.length
          simp at hl2
          refine qok_value I (v := .string (strOfNums xs)) ?_ (madeOk_pv ?_)
          · simp only [execOp, ho, hx]
            refine run_v (run_convert_bytes_arg w src e hs he _ _ n _ xs (by omega) (fun i hi => ?_) dst hd)
            have := hc i (.int .u8 (xs.getD i 0)) (by simp [List.getElem?_eq_getElem (show i < xs.length by omega)])
            exact this
          · exact Rp.lit rfl
      · simp at h
    · simp at h
  · rename_i p hne heq
    rw [Option.bind_eq_some_iff] at h
    obtain ⟨v, hv, h⟩ := h
    refine qok_pure I ?_ h
    simp only [execOp, ho, valOf_rp hv (pv_rp I heq)]
  · simp at h

/-! ### Structs, arrays and slices out of parts -/
theorem foldl_set : ∀ (l : List Value) (k off : Nat) (arr : Array Value), off + k + l.length ≤ arr.size →
    ((l.zipIdx k).foldl (fun cs x => cs.setIfInBounds (off + x.2) x.1) arr).toList = arr.toList.take (off + k) ++ l ++ arr.toList.drop (off + k + l.length)
  | [], k, off, arr, h => by simp
  | v :: l, k, off, arr, h => by
    simp only [List.length_cons] at h
    simp only [List.zipIdx_cons, List.foldl_cons]
    rw [foldl_set l (k + 1) off _ (by simp; omega)]
    simp only [Array.toList_setIfInBounds, List.length_cons]
    have e1 : off + (k + 1) = off + k + 1 := by omega
    have e2 : off + k + 1 + l.length = off + k + (l.length + 1) := by omega
    rw [e1, e2, List.take_set, List.drop_set_of_lt (by omega)]
    have hlt : off + k < arr.toList.length := by simp; omega
    rw [List.take_succ_eq_append_getElem hlt, List.set_append_right _ _ (by simp; omega)]
    simp [Nat.min_eq_left (show off + k ≤ arr.size by omega)]
/-- Parts that are told, and what they are. -/
inductive PartsRp (w : World) (Pr : Prot) : List (Nat × PV) → List (Nat × Value) → Prop
  | nil : PartsRp w Pr [] []
  | cons {i : Nat} {p : PV} {v : Value} {l : List (Nat × PV)} {k : List (Nat × Value)} (h : Rp w Pr p v) (ht : isTup p = false) (hs : PartsRp w Pr l k) : PartsRp w Pr ((i, p) :: l) ((i, v) :: k)
def spliceV (vs : List Value) (off : Nat) (new : List Value) : List Value := vs.take off ++ new ++ vs.drop (off + new.length)
theorem fillPV_rp {place : Nat → Option (Nat × Nat)} : ∀ {l : List (Nat × PV)} {k : List (Nat × Value)} {cells out : List PV} {vs : List Value}, PartsRp w Pr l k → fillPV place cells l = some out → RpL w Pr cells vs → One vs →
    ∃ us, Instr.fill place vs.toArray k = some us.toArray ∧ RpL w Pr out us ∧ One us
  | _, _, cells, out, vs, .nil, h, hr, h1 => by simp [fillPV] at h; subst h; exact ⟨vs, by simp [Instr.fill], hr, h1⟩
  | _, _, cells, out, vs, .cons (i := i) (p := p) (v := v) hp ht hs, h, hr, h1 => by
    simp only [fillPV] at h
    split at h
    · simp at h
    · rename_i off size hpl
      split at h
      · simp at h
      · rename_i hsz
        simp only [not_or, Decidable.not_not, Nat.not_lt] at hsz
        obtain ⟨hc1, hc2⟩ := hp.cells_rp (fun us e => by rw [e] at ht; simp [isTup] at ht)
        have hl := hc1.length
        have hlen := hr.length
        have hv : v.cells.toList.length = size := by rw [← hl]; exact hsz.1
        have hvs : v.cells.size = size := by rw [← hv]; simp
        have hfold : (v.cells.zipIdx.foldl (fun cs (x : Value × Nat) => cs.setIfInBounds (off + x.2) x.1) vs.toArray) = (spliceV vs off v.cells.toList).toArray := by
          apply Array.ext'
          have := foldl_set v.cells.toList 0 off vs.toArray (by simp only [List.size_toArray, Nat.add_zero]; omega)
          rw [← Array.foldl_toList, Array.toList_zipIdx]
          simpa [spliceV] using this
        obtain ⟨us, hu1, hu2, hu3⟩ := fillPV_rp hs h (show RpL w Pr (splice cells off p.cells) (spliceV vs off v.cells.toList) by
            unfold splice spliceV
            rw [hl]
            exact ((hr.take off).app hc1).app (hr.drop _)) (fun u hu => by
            unfold spliceV at hu
            simp only [List.mem_append] at hu
            rcases hu with (hu | hu) | hu
            · exact h1 u (List.mem_of_mem_take hu)
            · exact hc2 u hu
            · exact h1 u (List.mem_of_mem_drop hu))
        refine ⟨us, ?_, hu2, hu3⟩
        rw [← hu1, ← hfold]
        simp only [Instr.fill, hpl]
        rw [if_neg]
        simp only [List.size_toArray, bne_iff_ne, ne_eq, Bool.or_eq_true, decide_eq_true_eq, not_or, Decidable.not_not, Nat.not_lt]
        omega
end
end Go.Proofs.YtibbgjafjhcemaaDoor.Cul
