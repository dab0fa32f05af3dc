/- Part of a proof by an abstract machine for the program's code: lemmas, without conditions of their own beyond those that each states. -/
import Derived.Test.YtibbgjafjhcemaaDoorM24
set_option linter.unusedVariables false
set_option linter.unusedSimpArgs false
namespace Go.Proofs.YtibbgjafjhcemaaDoor.Cul
open Go Go.RowKit
theorem okOps_mono {N M : Nat} (h : N ≤ M) {ops : Array Oper} {dr : Bool} (hok : okOps N ops dr = true) : okOps M ops dr = true := by
  simp only [okOps, Bool.and_eq_true] at hok ⊢
  refine ⟨List.all_eq_true.2 fun o ho => ?_, hok.2⟩
  have := List.all_eq_true.1 hok.1 o ho
  cases hd : o.dst with
  | none => rfl
  | some d => rw [hd] at this; simp only [decide_eq_true_eq] at this ⊢; exact Nat.lt_of_lt_of_le this h
theorem okCode_mono {N M : Nat} (h : N ≤ M) : ∀ {c : Code}, okCode N c = true → okCode M c = true
  | .skip, _ => rfl
  | .region .., hok => okOps_mono h hok
  | .seq .., hok => by simp only [okCode, Bool.and_eq_true] at hok ⊢; exact ⟨okCode_mono h hok.1, okCode_mono h hok.2⟩
  | .cond .., hok => by simp only [okCode, Bool.and_eq_true] at hok ⊢; exact ⟨okCode_mono h hok.1, okCode_mono h hok.2⟩
  | .block _ _, hok => by simp only [okCode] at hok ⊢; exact okCode_mono h hok
  | .loop _, hok => by simp only [okCode] at hok ⊢; exact okCode_mono h hok
  | .rangeFunc _ ps a b, hok => by
    simp only [okCode, Bool.and_eq_true] at hok ⊢
    obtain ⟨⟨⟨⟨hfa, hfb⟩, hoa⟩, hob⟩, hps⟩ := hok
    refine ⟨⟨⟨⟨hfa, hfb⟩, okCode_mono h hoa⟩, okCode_mono h hob⟩, List.all_eq_true.2 fun p hp => ?_⟩
    have := List.all_eq_true.1 hps p hp
    simp only [decide_eq_true_eq] at this ⊢
    exact Nat.lt_of_lt_of_le this h
  | .exit _, _ => rfl
  | .ret, _ => rfl
theorem look_slots : ∀ (l : List PV) (i t : Nat) (av : AV), look (slotsOf i l) t = some av → ∃ j p, t = i + j ∧ l[j]? = some p ∧ av = .pv p
  | [], i, t, av, h => by simp [slotsOf, look] at h
  | p :: l, i, t, av, h => by
    simp only [slotsOf, look] at h
    split at h
    · rename_i e; exact ⟨0, p, by omega, rfl, (Option.some.inj h).symm⟩
    · obtain ⟨j, q, h1, h2, h3⟩ := look_slots l (i + 1) t av h
      exact ⟨j + 1, q, by omega, by simpa using h2, h3⟩
section
variable {P : Program} {base : Nat} {w w0 : World} {Pr Pr0 : Prot} {bk : Key → Nat} {pin : Pins} {st st' : St} {a : Act} {N : Nat} {call : Nat → List PV → Option RV}
theorem entry_inv {args : List PV} {vs : List Value} (hp : ∀ b o, Pr b o → b < w.heap.size) (hr : RpL w Pr args vs) (k : Nat) :
    Inv w.heap.size w Pr (fun _ => 0) (St.enter args) { tmps := vs.toArray ++ Array.replicate k undef, defers := [] } (vs.length + k) := by
  have hnl : ∀ x, ¬ live (St.enter args) x := by
    intro x hx
    cases x with
    | bx k => obtain ⟨cs, h⟩ := hx; simp [St.enter, look] at h
    | sx t =>
      rcases hx with ⟨sz, n, cs, h⟩ | ⟨z, h⟩
      · obtain ⟨j, p, _, _, e⟩ := look_slots args 0 t _ h; simp at e
      · simp [St.enter, lookP] at h
    | cx k o => obtain ⟨z, h⟩ := hx; simp [St.enter, lookP] at h
  constructor
  · simp
  · exact ⟨by simp, List.nodup_nil⟩
  · exact Nat.le_refl _
  · exact hp
  · intro t av ht
    obtain ⟨j, p, h1, h2, rfl⟩ := look_slots args 0 t av ht
    obtain ⟨v, h3, h4⟩ := hr.get j p h2
    refine ⟨v, ?_, h4⟩
    have hj : j < vs.length := (List.getElem?_eq_some_iff.1 h3).1
    have : t = j := by omega
    subst this
    rw [Array.getElem?_append_left (by simpa using hj)]
    simpa using h3
  · exact fun x hx => absurd hx (hnl x)
  · exact fun x _ hx => absurd hx (hnl x)
  · intro k cs h; simp [St.enter, look] at h
  · intro t z h; simp [St.enter, lookP] at h
  · intro k i z h; simp [St.enter, lookP] at h
  · intro t q h; simp [St.enter, look] at h
theorem fix_ok (I : Inv base w Pr bk st a N) (r : ResultVar) : ∃ Pr' bk', Inv base w Pr' bk' (st.fix r) a N ∧ Kp w Pr w Pr' ∧ ∀ b o, b < base → Pr' b o → Pr b o := by
  cases r with
  | cell t ty => exact ⟨Pr, bk, I, Kp.refl _ _, fun _ _ _ h => h⟩
  | tmp t => obtain ⟨Pr', bk', h1, h2, h3, _⟩ := I.still1 t; exact ⟨Pr', bk', h1, h2, h3⟩
/-- What a result's reading is. -/
def resRun (tmps : Array Value) : ResultVar → Sem Value
  | .tmp t => pure (tmps.getD t undef)
  | .cell g t => do loadVar t (← asAddr (tmps.getD g undef))
theorem getD_some {tmps : Array Value} {t : Nat} {v : Value} (h : tmps[t]? = some v) : tmps.getD t undef = v := by simp [h]
theorem aresult_ok (I : Inv base w Pr bk st a N) {r : ResultVar} {rv : RV} (h : aresult P st r = some rv) : ∃ v, (resRun a.tmps r).run P w = .ok v w ∧ Rp w Pr rv.v v ∧
    ∀ z, rv.gr = some z → ∃ b o n cap cs, rv.v = .sl z n cs ∧ v = .slice (some ⟨b, o, none⟩) n cap ∧ Room w Pr b o n cap z ∧ base ≤ b ∧ b < w.heap.size := by
  cases r with
  | tmp t =>
    simp only [aresult] at h
    split at h
    · rename_i p hl
      simp only [Option.some.injEq] at h; subst h
      obtain ⟨v, hv, hr⟩ := I.slots t _ hl
      refine ⟨v, by simp [resRun, hv], hr, fun z hz => ?_⟩
      obtain ⟨o, n, cap, cs, h1, h2, h3⟩ := I.grs t z hz
      have hown := I.own (.sx t) (.inr ⟨z, hz⟩)
      rw [hl] at h1
      rw [hv] at h2
      exact ⟨_, o, n, cap, cs, by simpa using h1, by simpa using h2, h3, hown.1, hown.2⟩
    · simp at h
  | cell t ty =>
    simp only [aresult] at h
    split at h
    · rename_i k o hl
      simp only [Option.bind_eq_some_iff, Option.map_eq_some_iff] at h
      obtain ⟨cs, hb, p, hp, rfl⟩ := h
      obtain ⟨v0, hv0, hr0⟩ := I.slots t _ hl
      simp only [RpA] at hr0
      obtain ⟨⟨T, vs, h1, h2, h3⟩, h4⟩ := I.boxes k cs hb
      have hrange : w.rangeAt (bk (.bx k)) 0 vs := fun j v hj => by
        rw [cell_of_row _ _ _ _ _ _ h1, Nat.zero_add]; simpa using hj
      obtain ⟨v, hv, hrp, hrow⟩ := takeT_load (w := w) (Pr := Pr) hp h2 h3 hrange
      refine ⟨v, ?_, hrp, fun z hz => ?_⟩
      · simp only [resRun, getD_some hv0, hr0, asAddr, Sem.run_bind, Sem.run_pure, Result.andThen_ok]
        rw [Nat.zero_add] at hv; exact hv
      · simp only at hz
        split at hz
        · simp at hz
        · rename_i hnr
          obtain ⟨hvo, hco⟩ := hrow (by simpa using hnr)
          obtain ⟨o', n, cap, cs', bcs, e1, e2, e3, e4⟩ := I.grc k o z hz
          have hown := I.own (.cx k o) ⟨z, hz⟩
          rw [hb] at e1; cases e1
          rw [hco] at e2
          have e5 : w.cell? ⟨bk (.bx k), o, none⟩ = some v := by have := hrange o v hvo; rwa [Nat.zero_add] at this
          rw [e5] at e3
          exact ⟨_, o', n, cap, cs', by simpa using e2, by simpa using e3, e4, hown.1, hown.2⟩
    · simp at h
theorem caps_ok (I : Inv base w Pr bk st a N) {Pr' : Prot} (hk : Kp w Pr w Pr') : ∀ (caps : List Cap) (vs : List Value) (ps : List PV), vs.length = caps.length → (∀ (i : Nat) (c : Cap) (u : Value), caps[i]? = some c → vs[i]? = some u → CapRp w Pr bk c u) →
    (∀ k off, Cap.bp k off ∈ caps → ∀ o, Pr' (bk (.bx k)) o) → capsOf st caps = some ps → RpL w Pr' ps vs
  | [], [], ps, _, _, _, h => by simp only [capsOf, Option.some.injEq] at h; subst h; exact .nil
  | [], v :: vs, ps, hl, _, _, _ => by simp at hl
  | c :: caps, [], ps, hl, _, _, _ => by simp at hl
  | .pv p :: caps, v :: vs, ps, hl, hc, hp, h => by
    simp only [capsOf, Option.map_eq_some_iff] at h
    obtain ⟨qs, hq, rfl⟩ := h
    exact .cons (Rp.mono hk (hc 0 _ v rfl rfl)) (caps_ok I hk caps vs qs (by simpa using hl) (fun i c u h1 h2 => hc (i + 1) c u (by simpa using h1) (by simpa using h2)) (fun k off hm => hp k off (List.mem_cons_of_mem _ hm)) hq)
  | .bp k off :: caps, v :: vs, ps, hl, hc, hp, h => by
    simp only [capsOf, Option.bind_eq_some_iff, Option.map_eq_some_iff] at h
    obtain ⟨cs, hb, qs, hq, rfl⟩ := h
    refine .cons ?_ (caps_ok I hk caps vs qs (by simpa using hl) (fun i c u h1 h2 => hc (i + 1) c u (by simpa using h1) (by simpa using h2)) (fun k off hm => hp k off (List.mem_cons_of_mem _ hm)) hq)
    have hv : v = .pointer (some ⟨bk (.bx k), off, none⟩) := hc 0 _ v rfl rfl
    obtain ⟨⟨T, us, h1, h2, h3⟩, _⟩ := I.boxes k cs hb
    have hrange : w.rangeAt (bk (.bx k)) 0 us := fun j u hj => by
      rw [cell_of_row _ _ _ _ _ _ h1, Nat.zero_add]; simpa using hj
    have hr2 := rangeAt_drop hrange off
    rw [Nat.zero_add] at hr2
    rw [hv]
    exact .el ((RpL.mono hk h2).drop off) (fun u hu => h3 u (List.mem_of_mem_drop hu)) hr2 (fun i hi => hp k off (by simp) _)
theorem aresult1_ok (I : Inv base w Pr bk st a N) {r : ResultVar} {rv : RV} (h : aresult1 P st r = some rv) : ∃ v Pr', (resRun a.tmps r).run P w = .ok v w ∧ Rp w Pr' rv.v v ∧ (∀ b o, b < base → Pr' b o → Pr b o) ∧ (∀ b o, Pr' b o → b < w.heap.size) ∧
    ∀ z, rv.gr = some z → ∃ b o n cap cs, rv.v = .sl z n cs ∧ v = .slice (some ⟨b, o, none⟩) n cap ∧ Room w Pr' b o n cap z ∧ base ≤ b ∧ b < w.heap.size := by
  have old : aresult P st r = some rv → ∃ v Pr', (resRun a.tmps r).run P w = .ok v w ∧ Rp w Pr' rv.v v ∧ (∀ b o, b < base → Pr' b o → Pr b o) ∧ (∀ b o, Pr' b o → b < w.heap.size) ∧
      ∀ z, rv.gr = some z → ∃ b o n cap cs, rv.v = .sl z n cs ∧ v = .slice (some ⟨b, o, none⟩) n cap ∧ Room w Pr' b o n cap z ∧ base ≤ b ∧ b < w.heap.size := fun h => by
    obtain ⟨v, h1, h2, h3⟩ := aresult_ok I h
    exact ⟨v, Pr, h1, h2, fun _ _ _ h => h, I.prot, h3⟩
  cases r with
  | cell g t => exact old h
  | tmp t =>
    simp only [aresult1] at h
    split at h
    · rename_i f caps hl
      simp only [Option.map_eq_some_iff] at h
      obtain ⟨ps, hps, rfl⟩ := h
      obtain ⟨v, hv, vs, rfl, hlen, hcap⟩ := I.slots t _ hl
      obtain ⟨Pr', hP'⟩ : ∃ Pr' : Prot, ∀ b o, Pr' b o ↔ (Pr b o ∨ ∃ k off cs, Cap.bp k off ∈ caps ∧ look st.bx k = some cs ∧ b = bk (.bx k)) := ⟨fun b o => _, fun _ _ => Iff.rfl⟩
      have hbx : ∀ k off, Cap.bp k off ∈ caps → ∃ cs, look st.bx k = some cs := by
        clear hcap hlen hl hP' hv old
        intro k off hm
        induction caps generalizing ps with
        | nil => simp at hm
        | cons c caps ih =>
          cases c with
          | pv p =>
            simp only [capsOf, Option.map_eq_some_iff] at hps
            obtain ⟨qs, hq, _⟩ := hps
            exact ih qs hq (by simpa using hm)
          | bp k2 o2 =>
            simp only [capsOf, Option.bind_eq_some_iff, Option.map_eq_some_iff] at hps
            obtain ⟨cs, hb, qs, hq, _⟩ := hps
            rcases List.mem_cons.1 hm with e | hm
            · cases e; exact ⟨cs, hb⟩
            · exact ih qs hq hm
      refine ⟨_, Pr', by simp [resRun, hv], .fn (caps_ok I ⟨fun b o h => (hP' b o).2 (.inl h), fun _ _ _ => rfl⟩ caps vs ps hlen hcap (fun k off hm o => ?_) hps), fun b o hlt h => ?_, fun b o h => ?_, fun z hz => by simp at hz⟩
      · obtain ⟨cs, hb⟩ := hbx k off hm
        exact (hP' _ _).2 (.inr ⟨k, off, cs, hm, hb, rfl⟩)
      · rcases (hP' b o).1 h with h | ⟨k, off, cs, _, hb, rfl⟩
        · exact h
        · have := (I.own (.bx k) ⟨cs, hb⟩).1; omega
      · rcases (hP' b o).1 h with h | ⟨k, off, cs, _, hb, rfl⟩
        · exact I.prot b o h
        · exact (I.own (.bx k) ⟨cs, hb⟩).2
    · exact old h
theorem aresultsL_ok : ∀ (l : List ResultVar) {st : St} {Pr : Prot} {bk : Key → Nat} {ps : List PV}, Inv base w Pr bk st a N → aresultsL P st l = some ps →
    ∃ vs Pr', (l.mapM (resRun a.tmps)).run P w = .ok vs w ∧ RpL w Pr' ps vs ∧ Kp w Pr w Pr' ∧ (∀ b o, b < base → Pr' b o → Pr b o) ∧ ∀ b o, Pr' b o → b < w.heap.size
  | [], st, Pr, bk, ps, I, h => by
    simp only [aresultsL, Option.some.injEq] at h; subst h
    exact ⟨[], Pr, by simp, .nil, Kp.refl _ _, fun _ _ _ h => h, I.prot⟩
  | r :: l, st, Pr, bk, ps, I, h => by
    simp only [aresultsL, Option.bind_eq_some_iff, Option.map_eq_some_iff] at h
    obtain ⟨rv, hrv, qs, hqs, rfl⟩ := h
    obtain ⟨Pr1, bk1, I1, hk1, hb1⟩ := fix_ok I r
    obtain ⟨v, hv, hrp, _⟩ := aresult_ok I1 hrv
    obtain ⟨vs, Pr2, h1, h2, h3, h4, h5⟩ := aresultsL_ok l I1 hqs
    exact ⟨v :: vs, Pr2, by simp [List.mapM_cons, hv, h1], .cons (Rp.mono h3 hrp) h2, hk1.trans h3, fun b o hb h => hb1 b o hb (h4 b o hb h), h5⟩
theorem results_eq (fn : Func) (tmps : Array Value) : results fn tmps = (do let vs ← fn.results.mapM (resRun tmps); pure (if h : vs.size = 1 then vs[0] else .tuple vs)) := rfl
theorem results_run {fn : Func} {tmps : Array Value} {vs : List Value} (h : (fn.results.toList.mapM (resRun tmps)).run P w = .ok vs w) : (results fn tmps).run P w = .ok (if h : vs.length = 1 then vs[0] else .tuple vs.toArray) w := by
  rw [results_eq]
  have : fn.results = fn.results.toList.toArray := by simp
  rw [this, List.mapM_toArray]
  simp only [Sem.run_bind, Sem.run_map, h]
  simp
theorem aresultsL_length : ∀ (l : List ResultVar) {st : St} {ps : List PV}, aresultsL P st l = some ps → l.length = ps.length
  | [], st, ps, h => by simp only [aresultsL, Option.some.injEq] at h; subst h; rfl
  | r :: l, st, ps, h => by
    simp only [aresultsL, Option.bind_eq_some_iff, Option.map_eq_some_iff] at h
    obtain ⟨rv, _, qs, hqs, rfl⟩ := h
    simp [aresultsL_length l hqs]
theorem aresults_ok {fn : Func} {rv : RV} (hp0 : ∀ b o, Pr0 b o → b < w0.heap.size) (G : Good w0.heap.size w0 Pr0 N pin st a w) (h : aresults P st fn.results.toList = some rv) : ∃ v Pr', (results fn a.tmps).run P w = .ok v w ∧ RetOk w0 Pr0 w Pr' rv v := by
  obtain ⟨Pr, bk, I, hb, hp, hko, _⟩ := G
  -- what was protected at the start is so at the end
  have join : ∀ Pr', Kp w Pr' w (fun b o => Pr' b o ∨ Pr0 b o) := fun Pr' => ⟨fun _ _ h => .inl h, fun _ _ _ => rfl⟩
  have fw : ∀ Pr' : Prot, (∀ b o, b < w0.heap.size → Pr' b o → Pr b o) → (∀ b o, Pr' b o → b < w.heap.size) → Fw w0 Pr0 w (fun b o => Pr' b o ∨ Pr0 b o) := fun Pr' h2 h3 =>
    ⟨hb, fun b o h => .inr h, fun b o hlt h => h.elim (fun h => hp b o hlt (h2 b o hlt h)) id, fun b o h => h.elim (h3 b o) (fun h => Nat.lt_of_lt_of_le (hp0 b o h) hb.size)⟩
  unfold aresults at h
  split at h
  · rename_i r hl
    obtain ⟨Pr1, bk1, I1, hk1, hb1⟩ := fix_ok I r
    obtain ⟨v, Pr2, hv, hrp, hb2, hn2, hgr⟩ := aresult1_ok I1 h
    refine ⟨v, _, ?_, ⟨fw Pr2 (fun b o hlt h => hb1 b o hlt (hb2 b o hlt h)) hn2, Rp.mono (join Pr2) hrp, fun z hz => ?_⟩⟩
    · have := results_run (P := P) (w := w) (fn := fn) (tmps := a.tmps) (vs := [v]) (by rw [hl]; simp [List.mapM_cons, hv])
      simpa using this
    · obtain ⟨b, o, n, cap, cs, h1, h2, h3, h4, h5⟩ := hgr z hz
      exact ⟨b, o, n, cap, cs, h1, h2, ⟨h3.hz, h3.le, h3.there, fun o' ho => ho.elim (h3.pr o') (fun h => absurd (hp0 b o' h) (by omega))⟩, h4, h5⟩
  · rename_i hl
    simp only [Option.map_eq_some_iff] at h
    obtain ⟨ps, hps, rfl⟩ := h
    obtain ⟨vs, Pr1, h1, h2, h3, h4, h5⟩ := aresultsL_ok _ I hps
    have hlen : vs.length ≠ 1 := by
      intro e
      have h6 := aresultsL_length _ hps
      rw [h2.length, e] at h6
      obtain ⟨r, hr⟩ := List.length_eq_one_iff.1 h6
      exact hl r hr
    refine ⟨.tuple vs.toArray, _, ?_, ⟨fw Pr1 h4 h5, .tup (RpL.mono (join Pr1) h2), fun z hz => by simp at hz⟩⟩
    have := results_run (P := P) (w := w) h1
    rw [this, dif_neg hlen]
end
/-- What a call's answer owes. -/
def CallIs (P : Program) (f : Nat) (args : List PV) (r : RV) : Prop :=
  HasBody P f ∧ ∀ (vs : List Value) (w : World) (Pr : Prot), (∀ b o, Pr b o → b < w.heap.size) → RpL w Pr args vs →
    Calls P f vs.toArray w (fun e w' => ∃ v Pr', e = .returned v ∧ RetOk w Pr w' Pr' r v)
/-- One function's run: what it answers, out of what its callees answer. -/
theorem abody_is {P : Program} {S : Nat → List PV → Option RV} {it : Nat → List PV → Option (Nat × List (List PV))} (hC : CallOk P S) (hI : IterOk P it) (hm : P.follows .mixedOrders = true) {f : Nat} {fn : Func} (hf : P.funcs[f]? = some fn) (hok : okFn fn = true) {note : Nat → Note} {k : Nat} {args : List PV} {r : RV}
    (h : abody P S it (fun g => loopN g k) note fn args = some r) : CallIs P f args r := by
  simp only [Option.bind_eq_some_iff, abody] at h
  obtain ⟨c, hc, ⟨x, st'⟩, hrun, hres⟩ := h
  simp only [okFn, hc, Bool.and_eq_true, Bool.not_eq_true'] at hok
  refine ⟨⟨fn, c, hf, hc, hok.2⟩, fun vs w Pr hp hr => callsIn_wide.1 (callsIn_of_wp_marks (F := Fence.wide) (n := 2) hf hc trivial ?_ rfl)⟩
  have I0 := entry_inv hp hr (fn.ntmps - vs.toArray.size)
  refine arun_ok (base := w.heap.size) (N := vs.length + (fn.ntmps - vs.toArray.size)) hC hI hm note k c (okCode_mono (by simp; omega) hok.1) Fence.wide easy_wide 2 w Pr ⟨fun _ => none, none⟩ (.inr ⟨rfl, rfl, by omega⟩) (fun _ _ => rfl) (St.enter args) _ w x st' ⟨Pr, _, I0, Below.refl _ _, fun _ _ _ h => h, KeepsOthers.refl _, fun k b e => by simp at e, fun _ _ _ h1 h2 => ⟨h1, h2⟩, fun _ e => by simp at e⟩ hrun _ fun a' w' G => ?_
  have fin : ∀ (hx : aresults P st' fn.results.toList = some r), LeavesInM Fence.wide 2 P fn a'.tmps (fun e w' => ∃ v Pr', e = .returned v ∧ RetOk w Pr w' Pr' r v) a'.defers .returning w' := fun hx =>
    leaves_ok (st := st') rfl rfl (fun tmps w2 G2 => by
      obtain ⟨v, Pr', h1, h2⟩ := aresults_ok hp G2 hx
      exact ⟨v, h1, v, Pr', rfl, h2⟩) a'.defers a'.tmps w' G
  cases x with
  | normal => exact fin hres
  | ret => exact fin hres
  | exit id => simp at hres
/-- The machine's groundwork: reckoned once a program. -/
structure MachOk (M : Mach) : Prop where
  orders : M.P.follows .mixedOrders = true
  iters : IterOk M.P M.iter
  fns : ∀ (f : Nat) (fn : Func), M.P.funcs[f]? = some fn → M.prim f = none → okFn fn = true
  prims : ∀ (f : Nat) (g : (Nat → List PV → Option RV) → List PV → Option RV), M.prim f = some g → ∀ call, CallOk M.P call → ∀ args r, g call args = some r → HasBody M.P f ∧ ∀ (vs : List Value) (w : World) (Pr : Prot), (∀ b o, Pr b o → b < w.heap.size) → RpL w Pr args vs →
    Calls M.P f vs.toArray w (fun e w' => ∃ v Pr', e = .returned v ∧ RetOk w Pr w' Pr' r v)
theorem acall_ok {M : Mach} (hM : MachOk M) : ∀ n, CallOk M.P (acall M n)
  | 0 => fun f args r h => by simp [acall] at h
  | n + 1 => fun f args r h => by
    simp only [acall] at h
    split at h
    · rename_i g hg
      exact hM.prims f g hg _ (acall_ok hM n) args r h
    · rename_i hg
      rw [Option.bind_eq_some_iff] at h
      obtain ⟨fn, hfn, h⟩ := h
      exact abody_is (acall_ok hM n) hM.iters hM.orders hfn (hM.fns f fn hfn hg) h
end Go.Proofs.YtibbgjafjhcemaaDoor.Cul
