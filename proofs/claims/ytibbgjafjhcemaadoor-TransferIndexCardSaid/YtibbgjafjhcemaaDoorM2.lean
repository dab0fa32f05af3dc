/- Part of a proof by an abstract machine for the program's code: lemmas, without conditions of their own beyond those that each states. -/
import Derived.Test.YtibbgjafjhcemaaDoorM1
set_option linter.unusedVariables false
set_option linter.unusedSimpArgs false
namespace Go.Proofs.YtibbgjafjhcemaaDoor.Cul
open Go Go.RowKit

abbrev Prot := Nat → Nat → Prop

mutual
/-- What a persistent value says of a value in memory. -/
inductive Rp (w : World) (Pr : Prot) : PV → Value → Prop
  | lit {v : Value} (h : scal v = true) : Rp w Pr (.lit v) v
  | sl {sz n cap b o : Nat} {cs : List PV} {vs : List Value} (hr : RpL w Pr cs vs) (h1 : ∀ v ∈ vs, v.oneCell' = true) (hl : cs.length = n * sz) (hn : n ≤ cap)
      (hc : w.rangeAt b o vs) (hp : ∀ i, i < vs.length → Pr b (o + i)) : Rp w Pr (.sl sz n cs) (.slice (some ⟨b, o, none⟩) n cap)
  | sl0 {sz : Nat} : Rp w Pr (.sl sz 0 []) (.slice none 0 0)
  | el {b o : Nat} {cs : List PV} {vs : List Value} (hr : RpL w Pr cs vs) (h1 : ∀ v ∈ vs, v.oneCell' = true)
      (hc : w.rangeAt b o vs) (hp : ∀ i, i < vs.length → Pr b (o + i)) : Rp w Pr (.el cs) (.pointer (some ⟨b, o, none⟩))
  | fn {f : Nat} {cs : List PV} {vs : List Value} (hr : RpL w Pr cs vs) : Rp w Pr (.fn f cs) (.func (.func f) #[] vs.toArray)
  | ag {cs : List PV} {vs : List Value} (hr : RpL w Pr cs vs) (h1 : ∀ v ∈ vs, v.oneCell' = true) : Rp w Pr (.ag cs) (.agg vs.toArray)
  | tup {cs : List PV} {vs : List Value} (hr : RpL w Pr cs vs) : Rp w Pr (.tup cs) (.tuple vs.toArray)
inductive RpL (w : World) (Pr : Prot) : List PV → List Value → Prop
  | nil : RpL w Pr [] []
  | cons {p : PV} {v : Value} {cs : List PV} {vs : List Value} (h : Rp w Pr p v) (hs : RpL w Pr cs vs) : RpL w Pr (p :: cs) (v :: vs)
end

/-- What is protected stays, and more may be protected. -/
structure Kp (w : World) (Pr : Prot) (w' : World) (Pr' : Prot) : Prop where
  pr : ∀ b o, Pr b o → Pr' b o
  cell : ∀ b o, Pr b o → w'.cell? ⟨b, o, none⟩ = w.cell? ⟨b, o, none⟩
theorem Kp.refl (w : World) (Pr : Prot) : Kp w Pr w Pr := ⟨fun _ _ h => h, fun _ _ _ => rfl⟩
theorem Kp.trans {w w1 w2 : World} {Pr Pr1 Pr2 : Prot} (h : Kp w Pr w1 Pr1) (k : Kp w1 Pr1 w2 Pr2) : Kp w Pr w2 Pr2 :=
  ⟨fun b o x => k.pr b o (h.pr b o x), fun b o x => (k.cell b o (h.pr b o x)).trans (h.cell b o x)⟩
theorem Kp.range {w w' : World} {Pr Pr' : Prot} (h : Kp w Pr w' Pr') {b o : Nat} {vs : List Value} (hc : w.rangeAt b o vs) (hp : ∀ i, i < vs.length → Pr b (o + i)) : w'.rangeAt b o vs := fun j v hj => by
  have hlt : j < vs.length := (List.getElem?_eq_some_iff.1 hj).1
  rw [h.cell b (o + j) (hp j hlt)]; exact hc j v hj
mutual
theorem Rp.mono {w w' : World} {Pr Pr' : Prot} (k : Kp w Pr w' Pr') : ∀ {p : PV} {v : Value}, Rp w Pr p v → Rp w' Pr' p v
  | _, _, .lit h => .lit h
  | _, _, .sl hr h1 hl hn hc hp => .sl (RpL.mono k hr) h1 hl hn (k.range hc hp) (fun i hi => k.pr _ _ (hp i hi))
  | _, _, .sl0 => .sl0
  | _, _, .el hr h1 hc hp => .el (RpL.mono k hr) h1 (k.range hc hp) (fun i hi => k.pr _ _ (hp i hi))
  | _, _, .fn hr => .fn (RpL.mono k hr)
  | _, _, .ag hr h1 => .ag (RpL.mono k hr) h1
  | _, _, .tup hr => .tup (RpL.mono k hr)
theorem RpL.mono {w w' : World} {Pr Pr' : Prot} (k : Kp w Pr w' Pr') : ∀ {cs : List PV} {vs : List Value}, RpL w Pr cs vs → RpL w' Pr' cs vs
  | _, _, .nil => .nil
  | _, _, .cons h hs => .cons (Rp.mono k h) (RpL.mono k hs)
end
section
variable {w : World} {Pr : Prot}
theorem RpL.length : ∀ {cs : List PV} {vs : List Value}, RpL w Pr cs vs → cs.length = vs.length
  | _, _, .nil => rfl
  | _, _, .cons _ hs => by simp [RpL.length hs]
theorem RpL.get : ∀ {cs : List PV} {vs : List Value}, RpL w Pr cs vs → ∀ (i : Nat) (p : PV), cs[i]? = some p → ∃ v, vs[i]? = some v ∧ Rp w Pr p v
  | _, _, .nil, i, p, h => by simp at h
  | _, _, .cons h hs, 0, p, e => by simp at e; subst e; exact ⟨_, rfl, h⟩
  | _, _, .cons h hs, i + 1, p, e => by simpa using RpL.get hs i p (by simpa using e)
theorem RpL.take : ∀ {cs : List PV} {vs : List Value}, RpL w Pr cs vs → ∀ n, RpL w Pr (cs.take n) (vs.take n)
  | _, _, .nil, n => by simp; exact .nil
  | _, _, .cons h hs, 0 => by simp; exact .nil
  | _, _, .cons h hs, n + 1 => by simp only [List.take_succ_cons]; exact .cons h (RpL.take hs n)
theorem RpL.drop : ∀ {cs : List PV} {vs : List Value}, RpL w Pr cs vs → ∀ n, RpL w Pr (cs.drop n) (vs.drop n)
  | _, _, .nil, n => by simp; exact .nil
  | _, _, .cons h hs, 0 => .cons h hs
  | _, _, .cons h hs, n + 1 => by simp only [List.drop_succ_cons]; exact RpL.drop hs n
theorem RpL.app : ∀ {cs : List PV} {vs : List Value}, RpL w Pr cs vs → ∀ {ds : List PV} {us : List Value}, RpL w Pr ds us → RpL w Pr (cs ++ ds) (vs ++ us)
  | _, _, .nil, _, _, k => k
  | _, _, .cons h hs, _, _, k => .cons h (RpL.app hs k)
/-- Plain values are what they say. -/
theorem litsOf_rp : ∀ {l : List Value} {ps : List PV}, litsOf l = some ps → RpL w Pr ps l ∧ (∀ v ∈ l, v.oneCell' = true)
  | [], ps, h => by simp [litsOf] at h; subst h; exact ⟨.nil, by simp⟩
  | v :: l, ps, h => by
    simp only [litsOf] at h
    split at h
    · rename_i hs
      simp only [Option.map_eq_some_iff] at h
      obtain ⟨qs, hq, rfl⟩ := h
      obtain ⟨h1, h2⟩ := litsOf_rp hq
      refine ⟨.cons (.lit hs) h1, fun u hu => ?_⟩
      rcases List.mem_cons.1 hu with rfl | hu
      · cases u <;> simp_all [scal, Value.oneCell']
      · exact h2 u hu
    · simp at h
theorem pvOf_rp {v : Value} {p : PV} (h : pvOf v = some p) : Rp w Pr p v := by
  unfold pvOf at h
  split at h
  · simp only [Option.map_eq_some_iff] at h
    obtain ⟨ps, hp, rfl⟩ := h
    obtain ⟨h1, h2⟩ := litsOf_rp (w := w) (Pr := Pr) hp
    exact .ag h1 h2
  · split at h
    · simp at h; subst h; exact .lit ‹_›
    · simp at h
theorem valsOf_rp : ∀ {ps : List PV} {l vs : List Value}, valsOf ps = some l → RpL w Pr ps vs → vs = l
  | [], l, vs, h, k => by simp [valsOf] at h; cases k; exact h.symm
  | .lit v :: ps, l, vs, h, k => by
    simp only [valsOf, Option.map_eq_some_iff] at h
    obtain ⟨q, hq, rfl⟩ := h
    cases k with
    | cons h1 h2 => cases h1; rw [valsOf_rp hq h2]
  | .sl .. :: ps, l, vs, h, k => by simp [valsOf] at h
  | .el .. :: ps, l, vs, h, k => by simp [valsOf] at h
  | .fn .. :: ps, l, vs, h, k => by simp [valsOf] at h
  | .ag .. :: ps, l, vs, h, k => by simp [valsOf] at h
  | .tup .. :: ps, l, vs, h, k => by simp [valsOf] at h
theorem valOf_rp {p : PV} {v u : Value} (h : valOf p = some v) (k : Rp w Pr p u) : u = v := by
  unfold valOf at h
  split at h
  · simp at h; subst h; cases k; rfl
  · simp only [Option.map_eq_some_iff] at h
    obtain ⟨l, hl, rfl⟩ := h
    cases k with
    | ag hr h1 => rw [valsOf_rp hl hr]
  · simp at h; subst h
    cases k with
    | fn hr => cases hr; rfl
  · simp at h
/-- A plain value says the same in every memory. -/
theorem valsOf_any : ∀ {ps : List PV} {l : List Value}, valsOf ps = some l → ∀ {w' : World} {Pr' : Prot} {vs : List Value}, RpL w Pr ps vs → RpL w' Pr' ps vs
  | [], l, h, _, _, vs, k => by cases k; exact .nil
  | .lit v :: ps, l, h, _, _, vs, k => by
    simp only [valsOf, Option.map_eq_some_iff] at h
    obtain ⟨q, hq, rfl⟩ := h
    cases k with
    | cons h1 h2 => cases h1 with | lit hs => exact .cons (.lit hs) (valsOf_any hq h2)
  | .sl .. :: ps, l, h, _, _, vs, k => by simp [valsOf] at h
  | .el .. :: ps, l, h, _, _, vs, k => by simp [valsOf] at h
  | .fn .. :: ps, l, h, _, _, vs, k => by simp [valsOf] at h
  | .ag .. :: ps, l, h, _, _, vs, k => by simp [valsOf] at h
  | .tup .. :: ps, l, h, _, _, vs, k => by simp [valsOf] at h
theorem valOf_any {p : PV} {v u : Value} (h : valOf p = some v) (k : Rp w Pr p u) {w' : World} {Pr' : Prot} : Rp w' Pr' p u := by
  unfold valOf at h
  split at h
  · cases k with | lit hs => exact .lit hs
  · simp only [Option.map_eq_some_iff] at h
    obtain ⟨l, hl, rfl⟩ := h
    cases k with
    | ag hr h1 => exact .ag (valsOf_any hl hr) h1
  · cases k with
    | fn hr => cases hr; exact .fn .nil
  · simp at h
theorem Rp.cells_rp {p : PV} {v : Value} (h : Rp w Pr p v) (ht : ∀ vs, p ≠ .tup vs) : RpL w Pr p.cells v.cells.toList ∧ ∀ u ∈ v.cells.toList, u.oneCell' = true := by
  cases h with
  | lit hs =>
    have : v.cells = #[v] := by cases v <;> simp_all [scal, Value.cells]
    rw [this]; refine ⟨.cons (.lit hs) .nil, ?_⟩
    simp; cases v <;> simp_all [scal, Value.oneCell']
  | sl hr h1 hl hn hc hp => exact ⟨.cons (.sl hr h1 hl hn hc hp) .nil, by simp [Value.cells, Value.oneCell']⟩
  | sl0 => exact ⟨.cons .sl0 .nil, by simp [Value.cells, Value.oneCell']⟩
  | el hr h1 hc hp => exact ⟨.cons (.el hr h1 hc hp) .nil, by simp [Value.cells, Value.oneCell']⟩
  | fn hr => exact ⟨.cons (.fn hr) .nil, by simp [Value.cells, Value.oneCell']⟩
  | ag hr h1 => simpa [PV.cells, Value.cells] using ⟨hr, h1⟩
  | tup hr => exact absurd rfl (ht _)
end
theorem rangeAt_take {w : World} {b o : Nat} {vs : List Value} (h : w.rangeAt b o vs) (n : Nat) : w.rangeAt b o (vs.take n) := fun j v hj => by
  rw [List.getElem?_take] at hj; split at hj
  · exact h j v hj
  · simp at hj
theorem rangeAt_drop {w : World} {b o : Nat} {vs : List Value} (h : w.rangeAt b o vs) (n : Nat) : w.rangeAt b (o + n) (vs.drop n) := fun j v hj => by
  rw [List.getElem?_drop] at hj
  have := h (n + j) v hj
  rwa [← Nat.add_assoc] at this
theorem evalPure_run {α : Type} (P : Program) : ∀ (s : Sem α) (a : α), evalPure P s = some a → ∀ w, s.run P w = .ok a w
  | .pure b, a, h, w => by simp [evalPure] at h; subst h; rfl
  | .program k, a, h, w => by simp only [evalPure] at h; simp only [Sem.run]; exact evalPure_run P (k P) a h w
  | .mark _ k, a, h, w => by simp only [evalPure] at h; simp only [Sem.run]; exact evalPure_run P k a h w
  | .load .., a, h, _ | .store .., a, h, _ | .new .., a, h, _ | .shape .., a, h, _ | .freeze .., a, h, _ | .frozen .., a, h, _ | .getObj .., a, h, _ | .setObj .., a, h, _ | .choose .., a, h, _ | .sys .., a, h, _ | .halt .., a, h, _ => by simp [evalPure] at h
theorem pureOp_run {P : Program} {s : Sem Value} {p : PV} (h : pureOp P s = some p) (w : World) (Pr : Prot) : ∃ v, s.run P w = .ok v w ∧ Rp w Pr p v := by
  unfold pureOp at h
  simp only [Option.bind_eq_some_iff] at h
  obtain ⟨v, hv, hp⟩ := h
  exact ⟨v, evalPure_run P s v hv w, pvOf_rp hp⟩
end Go.Proofs.YtibbgjafjhcemaaDoor.Cul
