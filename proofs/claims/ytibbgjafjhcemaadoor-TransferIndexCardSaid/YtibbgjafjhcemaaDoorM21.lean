/- Part of a proof by an abstract machine for the program's code: lemmas, without conditions of their own beyond those that each states. -/
import Derived.Test.YtibbgjafjhcemaaDoorM20
set_option linter.unusedVariables false
set_option linter.unusedSimpArgs false
namespace Go.Proofs.YtibbgjafjhcemaaDoor.Cul
open Go Go.RowKit
section
variable {P : Program} {base : Nat} {w w0 : World} {Pr Pr0 : Prot} {bk : Key → Nat} {st sL : St} {a : Act} {N n : Nat} {dOf : Nat → Nat} {ms : Nat → Made} {sT : Nat → St} {listed : Array Bool} {ops : Array Oper} {call : Nat → List PV → Option RV} {pin : Pins}
theorem bindsOn_spec {o : Oper} {j : Nat} (h : bindsOn o j = true) : ∃ e ∈ o.after, Region.binds .any e = true ∧ e.on = j := by
  unfold bindsOn at h
  obtain ⟨e, he, hb⟩ := Array.any_eq_true'.1 h
  simp only [Bool.and_eq_true, beq_iff_eq] at hb
  exact ⟨e, he, hb⟩
theorem okDeps_spec {l : List Oper} {i : Nat} {o : Oper} (h : okDeps l n i o = true) :
    (∀ g want, o.guard = some (g, want) → g < i ∧ bindsOn o g = true) ∧ (∀ e ∈ o.after, Region.binds .any e = true → e.on < i) ∧
    ∀ j, j < n → ∀ oj d, l[j]? = some oj → oj.dst = some d → (d ∈ tmpsOf o → (j < i ∧ bindsOn o j = true) ∨ (i < j ∧ bindsOn oj i = true) ∨ j = i) ∧ (j = i ∨ o.dst ≠ some d) := by
  simp only [okDeps, Bool.and_eq_true] at h
  obtain ⟨⟨h1, h2⟩, h3⟩ := h
  refine ⟨fun g want e => ?_, fun e he hb => ?_, fun j hj oj d hoj hd => ?_⟩
  · rw [e] at h1; simpa using h1
  · have := Array.all_eq_true'.1 h2 e he
    simp only [Bool.or_eq_true, Bool.not_eq_true', decide_eq_true_eq] at this
    rcases this with this | this
    · rw [hb] at this; simp at this
    · exact this
  · have := List.all_eq_true.1 h3 j (List.mem_range.2 hj)
    simp only [hoj, Option.bind_some, hd, Bool.and_eq_true, Bool.or_eq_true, Bool.not_eq_true', decide_eq_true_eq, beq_iff_eq, bne_iff_ne] at this
    obtain ⟨h4, h5⟩ := this
    refine ⟨fun hm => ?_, h5⟩
    rcases h4 with ((h4 | h4) | h4) | h4
    · rw [List.contains_eq_mem] at h4; simp [hm] at h4
    · exact .inl h4
    · exact .inr (.inl h4)
    · exact .inr (.inr h4)
theorem mem_tmpsOf {o : Oper} {t : Nat} (h : Operand.tmp t ∈ o.op.operands.toList) : t ∈ tmpsOf o := by
  unfold tmpsOf
  exact List.mem_filterMap.2 ⟨_, h, rfl⟩
theorem sees_of (T : Told P call ops.toList st n dOf ms sT) (H : JJ base w0 Pr0 N pin st n dOf ms listed a w sL Pr bk) {i : Nat} (hi : i < n) {o : Oper} (ho : ops[i]? = some o) (hdep : okDeps ops.toList n i o = true)
    (hready : ∀ e ∈ o.after, Region.binds .any e = true → isOn listed e.on) (inv : HeadInv .any ops n listed) (hnot : ¬ isOn listed i) (hmx : ∀ j, j < n → isEx (ms j).v = false) (hfresh : ∀ j, j < n → ¬ exAt st (dOf j)) :
    Sees o (sT i) sL := by
  obtain ⟨hg, ha, hdeps⟩ := okDeps_spec hdep
  have hin : i ≤ n := Nat.le_of_lt hi
  have near : ∀ t, t ∈ tmpsOf o → (∃ j, j < i ∧ dOf j = t ∧ isOn listed j) ∨ ((∀ j, j < i → dOf j ≠ t) ∧ ∀ j, j < n → isOn listed j → dOf j ≠ t) := by
    intro t ht
    have hd : ∀ j, j < n → dOf j = t → (j < i ∧ isOn listed j) ∨ (¬ j < i ∧ ¬ isOn listed j) := by
      intro j hj e
      obtain ⟨oj, hoj, hdj⟩ := T.dst j hj
      rcases (hdeps j hj oj (dOf j) hoj hdj).1 (e ▸ ht) with ⟨h1, h2⟩ | ⟨h1, h2⟩ | h1
      · obtain ⟨e', he, hb, hon⟩ := bindsOn_spec h2
        exact .inl ⟨h1, hon ▸ hready e' he hb⟩
      · obtain ⟨e', he, hb, hon⟩ := bindsOn_spec h2
        refine .inr ⟨by omega, fun hl => hnot ?_⟩
        have := inv.closed j oj (by simpa using hoj) hl e' he hb
        rw [hon] at this; exact this
      · subst h1; exact .inr ⟨by omega, hnot⟩
    by_cases h : ∃ j, j < i ∧ dOf j = t
    · obtain ⟨j, hj, e⟩ := h
      rcases hd j (by omega) e with ⟨_, hl⟩ | ⟨hc, _⟩
      · exact .inl ⟨j, hj, e, hl⟩
      · exact absurd hj hc
    · refine .inr ⟨fun j hj e => h ⟨j, hj, e⟩, fun j hj hl e => ?_⟩
      rcases hd j hj e with ⟨h1, _⟩ | ⟨_, h2⟩
      · exact h ⟨j, h1, e⟩
      · exact h2 hl
  constructor
  · intro x hx av he hn
    cases x with
    | tmp t =>
      simp only [St.ev] at he ⊢
      rcases near t (mem_tmpsOf hx) with ⟨j, hj, e, hl⟩ | ⟨h1, h2⟩
      · have h3 := (T.done i hin j hj).1
        rw [e, he] at h3
        have h4 := (H.on j (by omega) hl).1
        rw [e] at h4
        have h5 : (ms j).v = av := (Option.some.inj h3).symm
        rw [h4, h5]
        cases av <;> first | rfl | exact absurd rfl (hn _)
      · rw [(T.rest i hin t h1).1] at he
        rw [(H.off t h2).1]; exact he
    | const v => exact he
    | func f => exact he
    | global g => exact he
  · intro u sz m c he
    have hne : ∀ j, j < i → dOf j ≠ u := by
      intro j hj e
      have h3 := (T.done i hin j hj).1
      rw [e, he] at h3
      have := hmx j (by omega)
      rw [← Option.some.inj h3] at this
      simp [isEx] at this
    rw [(T.rest i hin u hne).1] at he
    have hne2 : ∀ j, j < n → isOn listed j → dOf j ≠ u := fun j hj _ e => hfresh j hj ⟨sz, m, c, e ▸ he⟩
    rw [(H.off u hne2).1]; exact he
  · rw [H.bx, (T.bx i hin).1]
  · rw [H.gr, (T.bx i hin).2]
  · intro t hx
    rcases near t (mem_tmpsOf hx) with ⟨j, hj, e, hl⟩ | ⟨h1, h2⟩
    · have h3 := (T.done i hin j hj).2
      have h4 := (H.on j (by omega) hl).2
      rw [e] at h3 h4
      simp only [St.tag]; rw [h3, h4]
    · simp only [St.tag]
      rw [(T.rest i hin t h1).2, (H.off t h2).2]
theorem wanted_sees (T : Told P call ops.toList st n dOf ms sT) (H : JJ base w0 Pr0 N pin st n dOf ms listed a w sL Pr bk) {i : Nat} (hi : i < n) {o : Oper} (hdep : okDeps ops.toList n i o = true)
    (hready : ∀ e ∈ o.after, Region.binds .any e = true → isOn listed e.on) {b : Bool} (h : aWanted ops.toList o (sT i) = some b) : aWanted ops.toList o sL = some b := by
  obtain ⟨hg, _, _⟩ := okDeps_spec hdep
  unfold aWanted at h ⊢
  cases hgd : o.guard with
  | none => rw [hgd] at h; exact h
  | some g =>
    obtain ⟨j, want⟩ := g
    obtain ⟨hji, hb⟩ := hg j want hgd
    obtain ⟨e, he, hbb, hon⟩ := bindsOn_spec hb
    have hl : isOn listed j := hon ▸ hready e he hbb
    obtain ⟨oj, hoj, hdj⟩ := T.dst j (by omega)
    simp only [hgd, hoj, Option.bind_some, hdj] at h ⊢
    have h3 := (T.done i (Nat.le_of_lt hi) j hji).1
    have h4 := (H.on j (by omega) hl).1
    rw [h3] at h
    rw [h4]
    split at h
    · rename_i c hc; rw [Option.some.inj hc]; exact h
    · rename_i hc; rw [Option.some.inj hc]; exact h
    · simp at h
def cnt (n : Nat) (listed : Array Bool) : Nat := ((List.range n).filter fun j => !listed.getD j false).length
theorem cnt_zero (h : cnt n listed = 0) : ∀ j, j < n → isOn listed j := by
  intro j hj
  have := List.eq_nil_of_length_eq_zero h
  have h2 := List.filter_eq_nil_iff.1 this j (List.mem_range.2 hj)
  unfold isOn
  cases e : listed.getD j false with
  | true => rfl
  | false => exact absurd (by rw [e]; rfl) h2
theorem cnt_succ {f : Nat} (h : cnt n listed = f + 1) : ∃ j, j < n ∧ ¬ isOn listed j := by
  cases hl : (List.range n).filter fun j => !listed.getD j false with
  | nil => unfold cnt at h; rw [hl] at h; simp at h
  | cons j l =>
    have : j ∈ (List.range n).filter fun j => !listed.getD j false := by rw [hl]; simp
    obtain ⟨h1, h2⟩ := List.mem_filter.1 this
    refine ⟨j, List.mem_range.1 h1, fun e => ?_⟩
    unfold isOn at e; rw [e] at h2; simp at h2
theorem cnt_set {i f : Nat} (hi : i < n) (hsz : n ≤ listed.size) (hoff : ¬ isOn listed i) (h : cnt n listed = f + 1) : cnt n (listed.setIfInBounds i true) = f := by
  have h1 : ((List.range n).filter fun j => !(listed.setIfInBounds i true).getD j false) = ((List.range n).filter fun j => !listed.getD j false).erase i := by
    rw [List.Nodup.erase_eq_filter ((List.nodup_range).filter _), List.filter_filter]
    apply List.filter_congr
    intro j hj
    by_cases e : i = j
    · subst e
      have := set_self (listed := listed) (i := i) (by omega)
      unfold isOn at this
      rw [this]; simp
    · rw [getD_set_ne false e]
      have : (j != i) = true := by simpa using Ne.symm e
      rw [this]; simp
  have h2 : i ∈ (List.range n).filter fun j => !listed.getD j false := by
    refine List.mem_filter.2 ⟨List.mem_range.2 hi, ?_⟩
    unfold isOn at hoff
    simpa using hoff
  unfold cnt at h ⊢
  rw [h1, List.length_erase_of_mem h2, h]; rfl
theorem wpAnyIn_seq {F : Fence} {m : Nat} {Q' : Exit → Act → World → Prop} : ∀ (l : List Oper) (k : Nat) (listed : Array Bool) (a : Act) (w : World), (∀ j, l[j]? = ops[k + j]?) → Region.seqB .any ops l.length k listed = true → wpListIn F m P ops Q' l a w → wpAnyIn F m P .any ops Q' l.length listed a w
  | [], _, _, _, _, _, hB, h => ⟨by simpa [Region.seqB] using hB, h⟩
  | o :: l, k, listed, a, w, hl, hB, h => by
    have h0 : ops[k]? = some o := by have := hl 0; simpa using this.symm
    simp only [List.length_cons, Region.seqB, Bool.and_eq_true, decide_eq_true_eq] at hB
    obtain ⟨hr, hB⟩ := hB
    refine ⟨fun h1 => absurd h1 (by rw [hr]; simp), fun i hi => ?_⟩
    rw [hr] at hi
    obtain rfl : i = k := by simpa using hi
    have hw : wpOpIn F m P ops Q' i (wpListIn F m P ops Q' l) a w := by unfold wpOpIn; rw [h0]; exact h
    exact wpOpIn_mono (fun a' w' h' => wpAnyIn_seq l (i + 1) _ a' w' (fun j => by have := hl (j + 1); rw [List.getElem?_cons_succ] at this; rw [this]; congr 1; omega) hB h') hw
theorem quietD_notDefer {o : Oper} {m : Made} (h : quietD P call o st = some m) : ∀ c, o.op ≠ .defer c := by
  intro c ho
  simp [quietD, ho, quiet] at h
theorem any_ok {F : Fence} (E : Easy F) (m : Nat) (hC : CallOk P call) {Q : Exit → Act → World → Prop} (T : Told P call ops.toList st n dOf ms sT) (hn : n < ops.size) (hs : Region.sinkB .any ops n = true) (hc : Region.chainB .any ops n = true) (hq : Region.seqB .any ops (ops.size - n) n (listedTo ops.size n) = true)
    (hdep : ∀ i o, i < n → ops[i]? = some o → okDeps ops.toList n i o = true) (hinj : ∀ i j, i < n → j < n → dOf i = dOf j → i = j) (hd : ∀ i, i < n → dOf i < N)
    (hf1 : ∀ i, i < n → lookP st.gr (.s (dOf i)) = none) (hf2 : ∀ i, i < n → ¬ exAt st (dOf i)) (hmx : ∀ j, j < n → isEx (ms j).v = false)
    (hEnd : ∀ listed a w sL Pr bk, (∀ j, j < n → isOn listed j) → JJ base w0 Pr0 N pin st n dOf ms listed a w sL Pr bk → wpListIn F m P ops Q (ops.toList.drop n) a w) :
    ∀ (f : Nat) (listed : Array Bool) (a : Act) (w : World) (sL : St) (Pr : Prot) (bk : Key → Nat), cnt n listed = f → HeadInv .any ops n listed → JJ base w0 Pr0 N pin st n dOf ms listed a w sL Pr bk → wpAnyIn F m P .any ops Q (f + (ops.size - n)) listed a w
  | 0, listed, a, w, sL, Pr, bk, hcnt, inv, H => by
    have hall := cnt_zero hcnt
    have hl : listed = listedTo ops.size n := by
      apply Array.ext_getElem?
      intro i
      have hsz := inv.size
      unfold listedTo
      simp only [List.getElem?_toArray, List.getElem?_map]
      by_cases h : i < ops.size
      · rw [List.getElem?_range h]
        simp only [Option.map_some]
        have hlt : i < listed.size := by omega
        rw [Array.getElem?_eq_getElem hlt]
        congr 1
        by_cases hin : i < n
        · have := hall i hin
          unfold isOn at this
          simp [hlt] at this
          simp [this, hin]
        · have := inv.tail i (by omega) h
          simp [hlt] at this
          simp [this, hin]
      · rw [Array.getElem?_eq_none (by omega), List.getElem?_eq_none (by simp; omega)]; rfl
    have hlen : (ops.toList.drop n).length = ops.size - n := by simp
    have := wpAnyIn_seq (F := F) (m := m) (P := P) (Q' := Q) (ops.toList.drop n) n listed a w (fun j => by simp [List.getElem?_drop]) (by rw [hlen, hl]; exact hq) (hEnd listed a w sL Pr bk hall H)
    rw [hlen] at this
    rw [Nat.zero_add]; exact this
  | f + 1, listed, a, w, sL, Pr, bk, hcnt, inv, H => by
    obtain ⟨i0, hi0, hoff0⟩ := cnt_succ hcnt
    have hsz : n ≤ listed.size := by rw [inv.size]; omega
    have hun : ∀ i, i < n → ¬ isOn listed i → listed.getD i true = false := fun i hi ho => getD_in (by omega) (by unfold isOn at ho; simpa using ho)
    have hne : ∀ d i, i = d → i < n → ¬ isOn listed i → Region.ready .any ops listed ≠ [] := by
      intro d
      induction d using Nat.strongRecOn with
      | _ d ih =>
        intro i hid hi ho
        subst hid
        obtain ⟨o, ho', _⟩ := T.dst i hi
        have ho2 : ops[i]? = some o := by simpa using ho'
        by_cases hall : ∀ e ∈ o.after, Region.binds .any e = true → listed.getD e.on false = true
        · have : i ∈ Region.ready .any ops listed := mem_ready.2 ⟨hun i hi ho, o, ho2, hall⟩
          exact fun h => by rw [h] at this; simp at this
        · have : ∃ e, e ∈ o.after ∧ Region.binds .any e = true ∧ ¬ listed.getD e.on false = true := by
            apply Classical.byContradiction
            intro hno
            exact hall fun e he hb => Classical.byContradiction fun hl => hno ⟨e, he, hb, hl⟩
          obtain ⟨e, he, hb, hl⟩ := this
          have hlt := (okDeps_spec (hdep i o hi ho2)).2.1 e he hb
          exact ih e.on hlt e.on rfl (by omega) hl
    rw [show f + 1 + (ops.size - n) = (f + (ops.size - n)) + 1 by omega]
    refine ⟨fun h => absurd h (hne i0 i0 rfl hi0 hoff0), fun i hi => ?_⟩
    have hin : i < n := by
      rcases Nat.lt_or_ge i n with h | h
      · exact h
      · exact absurd hi (tail_waits hs hc hn inv _ i0 rfl hi0 (hun i0 hi0 hoff0) i h)
    obtain ⟨hgt, o, ho, hall⟩ := mem_ready.1 hi
    have hoff : ¬ isOn listed i := by unfold isOn; rw [getD_both hgt]; simp
    have hS := sees_of T H hin ho (hdep i o hin ho) hall inv hoff hmx hf2
    obtain ⟨b, hb, hbt, hbf⟩ := T.step i hin o (by simpa using ho)
    have hw := wanted_eq (ops := ops) H.inv (wanted_sees T H hin (hdep i o hin ho) hall hb)
    have hdo : o.dst = some (dOf i) := by
      obtain ⟨o2, ho2, hd2⟩ := T.dst i hin
      have : o2 = o := by
        have h3 : ops[i]? = some o2 := by simpa using ho2
        rw [ho] at h3; exact (Option.some.inj h3).symm
      rw [← this]; exact hd2
    have go : ∀ v w' Pr', Fw w Pr w' Pr' → MadeOk base w' Pr' bk sL a { v := hush (ms i).v, gr := none, tg := (ms i).tg } v →
      (∀ cs, (ms i).v = .newp cs → ∃ b, v = .pointer (some ⟨b, 0, none⟩) ∧ w.heap.size ≤ b ∧ (∃ T vs, w'.heap[b]? = some (.cells vs.toArray T (0, 0)) ∧ RpL w' Pr' cs vs ∧ One vs) ∧ ∀ o, ¬ Pr' b o) →
      wpAnyIn F m P .any ops Q (f + (ops.size - n)) (listed.setIfInBounds i true) (a.put o.dst v) w' := by
      intro v w' Pr' hf hm hnew
      obtain ⟨sL', bk', H'⟩ := H.next hin hsz hoff hinj (hd i hin) (hf1 i hin) (hf2 i hin) hf hm (hmx i hin) hnew
      rw [hdo]
      exact any_ok E m hC T hn hs hc hq hdep hinj hd hf1 hf2 hmx hEnd f _ _ _ _ _ _ (cnt_set hin hsz hoff hcnt) (inv.set hi hin) H'
    unfold wpOpIn
    simp only [ho]
    rw [hw]
    cases b with
    | true =>
      simp only [if_true]
      exact oper_in E (quietD_notDefer (hbt rfl)) (quietD_ok hC H.inv hS (hbt rfl) _ Q fun v w' Pr' hf hm hx hnew => go v w' Pr' hf hm hnew)
    | false =>
      simp only [Bool.false_eq_true, if_false]
      have he := hbf rfl
      refine ⟨fun f _ => E.fn f, ?_⟩
      refine go undef w Pr (Fw.refl H.inv.prot) ?_ (fun cs e => by rw [he] at e; simp [undefA] at e)
      rw [he]
      exact madeOk_pv (Rp.tup .nil)
end
end Go.Proofs.YtibbgjafjhcemaaDoor.Cul
