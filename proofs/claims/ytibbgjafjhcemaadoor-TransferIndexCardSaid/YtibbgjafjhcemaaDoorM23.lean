/- Part of a proof by an abstract machine for the program's code: lemmas, without conditions of their own beyond those that each states. -/
import Derived.Test.YtibbgjafjhcemaaDoorM22
set_option linter.unusedVariables false
set_option linter.unusedSimpArgs false
namespace Go.Proofs.YtibbgjafjhcemaaDoor.Cul
open Go Go.RowKit
section
variable {P : Program} {base : Nat} {w w0 : World} {Pr Pr0 : Prot} {bk : Key → Nat} {st st' : St} {a : Act} {N : Nat} {ops : Array Oper} {call : Nat → List PV → Option RV} {pin : Pins}
theorem quietD_notEx {o : Oper} {m : Made} (h : quietD P call o st = some m) : isEx m.v = false := by
  unfold quietD at h
  split at h
  · split at h
    · simp only [Option.some.injEq] at h; subst h; rfl
    · simp only [Option.some.injEq] at h; subst h; rfl
    · simp only [Option.some.injEq] at h; subst h; rfl
    · simp at h
  · simp only [Option.map_eq_some_iff] at h
    obtain ⟨z, _, rfl⟩ := h; rfl
  · simp only [Option.bind_eq_some_iff] at h
    obtain ⟨m0, _, h⟩ := h
    split at h
    · simp at h
    · rename_i hx
      simp only [Option.some.injEq] at h; subst h; simpa using hx
theorem cnt_none (n m : Nat) : cnt n (Array.replicate m false) = n := by
  unfold cnt
  rw [List.filter_eq_self.2 (fun j _ => by rw [getD_replicate_false]; rfl), List.length_range]
theorem fw_drew (I : Inv base w Pr bk st a N) : Fw w Pr w.drew Pr := ⟨(Below.refl _ _).drew, fun _ _ h => h, fun _ _ _ h => h, fun b o h => by simpa using I.prot b o h⟩
theorem region_ok {F : Fence} (E : Easy F) (m : Nat) (hC : CallOk P call) (hm : P.follows .mixedOrders = true) {id : Nat} {dr : Bool} {Q : Exit → Act → World → Prop} (hok : okOps N ops dr = true) (hPn : ∀ o ∈ ops.toList, ∀ d, o.dst = some d → pin.k d = none) (G : Good base w0 Pr0 N pin st a w) (h : aregion P call ops.toList dr st = some st')
    (hQ : ∀ a' w', Good base w0 Pr0 N pin st' a' w' → Q .normal a' w') : (Code.region id ops dr).wpIn F m P Q a w := by
  simp only [okOps, Bool.and_eq_true] at hok
  obtain ⟨hdst, hdr⟩ := hok
  have hN : ∀ o ∈ ops.toList, ∀ d, o.dst = some d → d < N ∧ pin.k d = none := by
    intro o ho d hd
    have := List.all_eq_true.1 hdst o ho
    rw [hd] at this; exact ⟨by simpa using this, hPn o ho d hd⟩
  cases dr with
  | false =>
    simp only [aregion, Bool.false_eq_true, if_false] at h
    exact wpIn_region_list (aops_ok E m hC hQ ops.toList st a w hN G h)
  | true =>
    simp only [Bool.not_true, Bool.false_or] at hdr
    simp only [aregion, if_true] at h
    split at h
    · rename_i hfr
      simp only [Option.bind_eq_some_iff] at h
      obtain ⟨s, hs, s2, hs2, h⟩ := h
      unfold okDraw at hdr
      generalize hn : quietN ops.toList = n at *
      simp only [Bool.and_eq_true, decide_eq_true_eq] at hdr
      obtain ⟨⟨⟨⟨hnlt, hsink⟩, hchain⟩, hseq⟩, hdeps⟩ := hdr
      have hdep : ∀ i o, i < n → ops[i]? = some o → okDeps ops.toList n i o = true := by
        intro i o hi ho
        have := List.all_eq_true.1 hdeps i (List.mem_range.2 hi)
        rw [ho] at this
        simp only [Bool.and_eq_true] at this
        exact this.2
      have hlen : (ops.toList.take n).length = n := by simp; omega
      have htake : ∀ i, i < n → (ops.toList.take n)[i]? = ops.toList[i]? := fun i hi => by rw [List.getElem?_take, if_pos hi]
      have hfresh : ∀ i o, i < n → ops.toList[i]? = some o → freshDst st o = true := by
        intro i o hi ho
        refine List.all_eq_true.1 hfr o (List.mem_of_getElem? (i := i) ?_)
        rw [htake i hi]; exact ho
      obtain ⟨dOf, hdOf⟩ : ∃ dOf : Nat → Nat, ∀ i o d, ops.toList[i]? = some o → o.dst = some d → dOf i = d := ⟨fun i => ((ops.toList[i]?).bind (·.dst)).getD 0, fun i o d ho hd => by simp only [ho, Option.bind_some, hd, Option.getD_some]⟩
      have hd1 : ∀ i o, i < n → ops.toList[i]? = some o → o.dst = some (dOf i) ∧ lookP st.gr (.s (dOf i)) = none ∧ ¬ exAt st (dOf i) := by
        intro i o hi ho
        have := hfresh i o hi ho
        unfold freshDst at this
        cases hd : o.dst with
        | none => rw [hd] at this; simp at this
        | some d =>
          rw [hd] at this
          simp only [Bool.and_eq_true, Option.isNone_iff_eq_none] at this
          rw [hdOf i o d ho hd]
          refine ⟨rfl, this.1, fun ⟨sz, m, c, hx⟩ => ?_⟩
          rw [hx] at this; simp at this
      have hget : ∀ i, i < n → ∃ o, ops.toList[i]? = some o := fun i hi => ⟨_, List.getElem?_eq_getElem (by simp; omega)⟩
      have hinj : ∀ i j, i < n → j < n → dOf i = dOf j → i = j := by
        intro i j hi hj e
        obtain ⟨oi, hoi⟩ := hget i hi
        obtain ⟨oj, hoj⟩ := hget j hj
        have := ((okDeps_spec (hdep i oi hi (by simpa using hoi))).2.2 j hj oj (dOf j) hoj (hd1 j oj hj hoj).1).2
        rcases this with this | this
        · exact this.symm
        · exact absurd ((hd1 i oi hi hoi).1.trans (by rw [e])) this
      obtain ⟨ms, sT, t1, t2, t3, t4, t5, t6⟩ := told (P := P) (call := call) (ops := ops.toList) (s := s) (dOf := dOf) (ops.toList.take n) st
        (fun i o ho => by
          have hi : i < n := by have := (List.getElem?_eq_some_iff.1 ho).1; rw [hlen] at this; exact this
          exact (hd1 i o hi (by rw [← htake i hi]; exact ho)).1)
        (fun i j hi hj e => hinj i j (by omega) (by omega) e) hs
      rw [hlen] at t1 t3 t4 t5 t6
      have T : Told P call ops.toList st n dOf ms sT := by
        refine ⟨fun i hi => ?_, fun i hi o ho => t3 i hi o (by rw [htake i hi]; exact ho), t4, t5, t6⟩
        obtain ⟨o, ho⟩ := hget i hi
        exact ⟨o, ho, (hd1 i o hi ho).1⟩
      have hmx : ∀ j, j < n → isEx (ms j).v = false := by
        intro j hj
        obtain ⟨o, ho⟩ := hget j hj
        obtain ⟨b, _, hbt, hbf⟩ := T.step j hj o ho
        cases b with
        | true => exact quietD_notEx (hbt rfl)
        | false => rw [hbf rfl]; rfl
      obtain ⟨Pr, bk, I, hch⟩ := G
      have hfd := fw_drew I
      have J0 : JJ base w0 Pr0 N pin st n dOf ms (Array.replicate ops.size false) a w.drew st Pr bk := by
        have hno : ∀ j, ¬ isOn (Array.replicate ops.size false) j := fun j h => by unfold isOn at h; rw [getD_replicate_false] at h; simp at h
        exact ⟨I.fw hfd, ⟨hch.1.trans (hfd.bel.mono I.hb), hch.2.1, hch.2.2.1.trans hfd.ko, hch.2.2.2.1, fun b o v h1 h2 => hch.2.2.2.2.1 b o v h1 h2, hch.2.2.2.2.2⟩, rfl, rfl, fun j _ hl => absurd hl (hno j), fun t _ => ⟨rfl, rfl⟩, fun j _ _ hl => absurd hl (hno j), fun i _ _ _ _ _ _ hl => absurd hl (hno i)⟩
      have inv0 : HeadInv .any ops n (Array.replicate ops.size false) :=
        ⟨by simp, fun j oj _ hl => (by rw [getD_replicate_false] at hl; cases hl), fun t _ ht => getD_in (by simpa using ht) (getD_replicate_false _ _)⟩
      refine wpIn_region_any hm ?_
      have := any_ok (Q := Q) E m hC T hnlt hsink hchain hseq hdep hinj
        (fun i hi => by obtain ⟨o, ho⟩ := hget i hi; exact (hN o (List.mem_of_getElem? ho) _ (hd1 i o hi ho).1).1)
        (fun i hi => by obtain ⟨o, ho⟩ := hget i hi; exact (hd1 i o hi ho).2.1)
        (fun i hi => by obtain ⟨o, ho⟩ := hget i hi; exact (hd1 i o hi ho).2.2) hmx
        (fun listed a' w' sL Pr' bk' hall H => by
          obtain ⟨SS0, hnp⟩ := H.done T hall hinj
          rw [t1] at SS0 hnp
          obtain ⟨bk2, I2, hb2⟩ := settle_ok (ops.toList.take n) SS0 (fun t cs ht => by
            obtain ⟨j, hj, e⟩ := hnp t cs ht
            obtain ⟨o, ho⟩ := hget j hj
            exact ⟨o, List.mem_of_getElem? (i := j) (by rw [htake j hj]; exact ho), by rw [← e]; exact (hd1 j o hj ho).1⟩) hs2
          exact aops_ok E m hC hQ (ops.toList.drop n) s2 a' w' (fun o ho => hN o (List.mem_of_mem_drop ho)) ⟨Pr', bk2, I2, H.chain.1, H.chain.2.1, H.chain.2.2.1, fun k b e => (hb2 k (fun o ho e2 => by rw [hPn o (List.mem_of_mem_take ho) k e2] at e; simp at e)).trans (H.chain.2.2.2.1 k b e), H.chain.2.2.2.2⟩ h)
        n _ a w.drew st Pr bk (cnt_none n ops.size) inv0 J0
      rw [show n + (ops.size - n) = ops.size by omega] at this
      exact this
    · simp at h
end
end Go.Proofs.YtibbgjafjhcemaaDoor.Cul
