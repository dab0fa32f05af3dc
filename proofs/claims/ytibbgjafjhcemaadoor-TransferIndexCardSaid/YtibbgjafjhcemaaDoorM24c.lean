/- Part of a proof by an abstract machine for the program's code: lemmas, without conditions of their own beyond those that each states. -/
import Derived.Test.YtibbgjafjhcemaaDoorM24b
set_option linter.unusedVariables false
set_option linter.unusedSimpArgs false
namespace Go.Proofs.YtibbgjafjhcemaaDoor.Cul
open Go Go.RowKit
section
variable {pin : Pins} {P : Program} {base : Nat} {w w' w0 : World} {Pr Pr' Pr0 : Prot} {bk bk' : Key → Nat} {st st1 s2 : St} {a a' : Act} {N : Nat}
/-- What is there and protected is carried over. -/
def Carry (w : World) (Pr : Prot) (w' : World) (Pr' : Prot) : Prop := ∀ b o v, Pr b o → w.cell? ⟨b, o, none⟩ = some v → Pr' b o ∧ w'.cell? ⟨b, o, none⟩ = some v
mutual
theorem Rp.carry (c : Carry w Pr w' Pr') : ∀ {p : PV} {v : Value}, Rp w Pr p v → Rp w' Pr' p v
  | _, _, .lit h => .lit h
  | _, _, .sl hr h1 hl hn hc hp => .sl (RpL.carry c hr) h1 hl hn (fun j v hj => (c _ _ v (hp j (List.getElem?_eq_some_iff.1 hj).1) (hc j v hj)).2) (fun i hi => (c _ _ _ (hp i hi) (hc i _ (List.getElem?_eq_getElem hi))).1)
  | _, _, .sl0 => .sl0
  | _, _, .el hr h1 hc hp => .el (RpL.carry c hr) h1 (fun j v hj => (c _ _ v (hp j (List.getElem?_eq_some_iff.1 hj).1) (hc j v hj)).2) (fun i hi => (c _ _ _ (hp i hi) (hc i _ (List.getElem?_eq_getElem hi))).1)
  | _, _, .fn hr => .fn (RpL.carry c hr)
  | _, _, .ag hr h1 => .ag (RpL.carry c hr) h1
  | _, _, .tup hr => .tup (RpL.carry c hr)
theorem RpL.carry (c : Carry w Pr w' Pr') : ∀ {cs : List PV} {vs : List Value}, RpL w Pr cs vs → RpL w' Pr' cs vs
  | _, _, .nil => .nil
  | _, _, .cons h hs => .cons (Rp.carry c h) (RpL.carry c hs)
end
theorem Good.own {r0 : Option Nat} {ds : List Deferred} (hds : pin.ds = some ds) (hm : ∀ d ∈ ds, Mark base w0 d) (hbw : base ≤ w0.heap.size) (G : Good base w0 Pr0 N pin st a w) (hg : w.grownBy w' r0) (hr : ∀ r, r0 = some r → w0.heap.size ≤ r ∧ ∃ o : Obj, w.heap[r]? = some o ∧ o.isCells = false) : Good base w0 Pr0 N pin st a w' := by
  obtain ⟨Pr, bk, I, hb, hp, hko, hpn, hkc, hdf⟩ := G
  have hkeep : KeepsOthers w0 w' := ⟨Nat.le_trans hko.size hg.size, fun k o h ho => by
    have h2 := hko.same k o h ho
    refine (hg.block k (Array.getElem?_eq_some_iff.1 h2).1 (fun e => ?_)).trans h2
    obtain ⟨h3, _⟩ := hr k e.symm
    have := (Array.getElem?_eq_some_iff.1 h).1
    omega⟩
  have hbel : Below base w0 w' := hb.grown hg (Nat.le_trans hbw hb.size) (fun k e => Nat.le_trans hbw (hr k e).1)
  cases r0 with
  | none =>
    have hf : Fw w Pr w' Pr := ⟨(Below.refl _ w).grown hg (Nat.le_refl _) (by simp), fun _ _ h => h, fun _ _ _ h => h, fun b o h => Nat.lt_of_lt_of_le (I.prot b o h) hg.size⟩
    refine ⟨Pr, bk, I.fw hf, hbel, hp, hkeep, hpn, fun b o v h1 h2 => ?_, hdf⟩
    obtain ⟨h3, h4⟩ := hkc b o v h1 h2
    exact ⟨h3, ((hf.kp I.prot).cell b o h3).trans h4⟩
  | some r =>
    obtain ⟨hlo, o, ho, hc⟩ := hr r rfl
    have I2 := I.turn hg (r := r) (fun r' e => by cases e; rfl) ho hc (fun d hd e => by
      rw [hdf ds hds] at hd
      obtain ⟨D, e1, e2, _⟩ := hm d hd
      rw [e1] at e
      have : D = r := by simpa using e
      have := (Array.getElem?_eq_some_iff.1 e2).1
      omega)
    refine ⟨_, bk, I2, hbel, fun b o hlt h => hp b o hlt h.1, hkeep, hpn, fun b i v h1 h2 => ?_, hdf⟩
    obtain ⟨h3, h4⟩ := hkc b i v h1 h2
    have hbr : b ≠ r := fun e => by subst e; rw [cell_none ho hc] at h4; simp at h4
    refine ⟨⟨h3, hbr⟩, (World.cell?_of_block (w := w) (a := ⟨b, i, none⟩) ?_).trans h4⟩
    exact hg.block b (I.prot b i h3) (fun e => hbr (by cases e; rfl))
/-- A frame that a loop over a function may begin with. -/
structure Shed (ks : List Nat) (st1 : St) : Prop where
  sl : ∀ t av, look st1.sl t = some av → (∃ p, av = .pv p) ∨ (∃ k off, av = .bp k off ∧ ks.contains k = false) ∨ (∃ f caps, av = .cl f caps ∧ caps.any (capIn ks) = false) ∨ av = .dead
  bx : ∀ k cs, look st1.bx k = some cs → ks.contains k = false
theorem look_shed (st : St) (ks : List Nat) (t : Nat) : look (st.shed ks).sl t = (look st.sl t).map (shedV ks) := look_map (shedX ks) (fun _ v => shedV ks v) (fun _ => rfl) st.sl t
theorem shed_shed (st : St) (ks : List Nat) : Shed ks (st.shed ks) := by
  constructor
  · intro t av h
    rw [look_shed] at h
    cases e : look st.sl t with
    | none => simp [e] at h
    | some v =>
      simp only [e, Option.map_some, Option.some.injEq] at h
      subst h
      cases v with
      | pv p => exact .inl ⟨p, rfl⟩
      | bp k off =>
        simp only [shedV]
        cases hk : ks.contains k with
        | true => simp
        | false => exact .inr (.inl ⟨k, off, by simp, hk⟩)
      | cl f caps =>
        simp only [shedV]
        cases hk : caps.any (capIn ks) with
        | true => simp
        | false => exact .inr (.inr (.inl ⟨f, caps, by simp, hk⟩))
      | _ => exact .inr (.inr (.inr rfl))
  · intro k cs h
    simp only [St.shed] at h
    rw [look_filter (fun x => !ks.contains x)] at h
    split at h
    · rename_i hk; simpa using hk
    · simp at h
theorem Inv.shed (I : Inv base w Pr bk st a N) (ks : List Nat) : Inv base w Pr bk (st.shed ks) a N := by
  refine I.less (fun t av h => ?_) (fun k cs h => ?_) (fun p z h => ?_) (fun t q h => by simp [St.shed, look] at h) (fun t u h _ => ?_)
  · rw [look_shed] at h
    cases e : look st.sl t with
    | none => simp [e] at h
    | some v =>
      simp only [e, Option.map_some, Option.some.injEq] at h
      obtain ⟨u, hu, _⟩ := I.slots t v e
      subst h
      cases v with
      | pv p => exact .inl rfl
      | bp k off =>
        simp only [shedV]
        split
        · exact .inr ⟨rfl, u, hu⟩
        · exact .inl rfl
      | cl f caps =>
        simp only [shedV]
        split
        · exact .inr ⟨rfl, u, hu⟩
        · exact .inl rfl
      | _ => exact .inr ⟨rfl, u, hu⟩
  · simp only [St.shed] at h
    rw [look_filter (fun x => !ks.contains x)] at h
    split at h
    · exact h
    · simp at h
  · simp only [St.shed] at h
    rw [lookP_filter (Pl.inC fun k => !ks.contains k)] at h
    split at h
    · rename_i hk
      refine ⟨h, ?_⟩
      cases p with
      | s t => simp [Pl.inC] at hk
      | c k o =>
        simp only [Pl.inC] at hk
        show look (st.shed ks).bx k = look st.bx k
        simp only [St.shed]
        rw [look_filter (fun x => !ks.contains x), if_pos hk]
    · simp at h
  · exfalso
    have := (shed_shed st ks).sl t
    rcases h with h | ⟨off, h⟩
    · rcases this _ h with ⟨p, e⟩ | ⟨k, o, e, _⟩ | ⟨f, c, e, _⟩ | e <;> simp at e
    · rcases this _ h with ⟨p, e⟩ | ⟨k, o, e, _⟩ | ⟨f, c, e, _⟩ | e <;> simp at e
end
end Go.Proofs.YtibbgjafjhcemaaDoor.Cul
