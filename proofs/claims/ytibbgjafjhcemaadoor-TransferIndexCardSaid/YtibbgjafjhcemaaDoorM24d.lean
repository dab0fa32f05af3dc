/- Part of a proof by an abstract machine for the program's code: lemmas, without conditions of their own beyond those that each states. -/
import Derived.Test.YtibbgjafjhcemaaDoorM24c
set_option linter.unusedVariables false
set_option linter.unusedSimpArgs false
namespace Go.Proofs.YtibbgjafjhcemaaDoor.Cul
open Go Go.RowKit
section
variable {pin : Pins} {P : Program} {base : Nat} {w w' w0 : World} {Pr Pr' Pr0 : Prot} {bk bk' : Key → Nat} {st st1 s2 : St} {a a' : Act} {N : Nat} {ks : List Nat}
theorem look_filter' {α : Type} (f : Nat → Bool) (l : List (Nat × α)) (t : Nat) : look (l.filter (fun x => f x.1)) t = if f t then look l t else none := look_filter f l t
/-- Behind a round: the slots of old, the variables as the round has left them. -/
theorem after_ok (I : Inv base w Pr bk st1 a N) (S : Shed ks st1) (I2 : Inv base w' Pr' bk' s2 a' N) (c : Carry w Pr w' Pr') (hk : ∀ k, ks.contains k = false → bk' (.bx k) = bk (.bx k)) (ko : KeepsOthers w w') :
    Inv base w' Pr' bk' (st1.after s2) a N := by
  have hbx : ∀ k, look (st1.after s2).bx k = if (look st1.bx k).isSome then look s2.bx k else none := fun k => look_filter' (fun k => (look st1.bx k).isSome) s2.bx k
  have hgr : ∀ p, lookP (st1.after s2).gr p = if p.inC (fun k => (look st1.bx k).isSome) then lookP s2.gr p else none := fun p => lookP_filter (Pl.inC fun k => (look st1.bx k).isSome) s2.gr p
  have hlive : ∀ x, live (st1.after s2) x → live s2 x := by
    intro x hx
    cases x with
    | bx k =>
      obtain ⟨cs, h⟩ := hx
      rw [hbx] at h
      split at h
      · exact ⟨cs, h⟩
      · simp at h
    | sx t =>
      exfalso
      rcases hx with ⟨sz, n, cs, h⟩ | ⟨z, h⟩
      · rcases S.sl t _ h with ⟨p, e⟩ | ⟨k, o, e, _⟩ | ⟨f, c, e, _⟩ | e <;> simp at e
      · rw [hgr] at h; simp [Pl.inC] at h
    | cx k o =>
      obtain ⟨z, h⟩ := hx
      rw [hgr] at h
      split at h
      · exact ⟨z, h⟩
      · simp at h
  constructor
  · exact I.size
  · exact ⟨fun d hd => (I.defers.1 d hd).ko ko, I.defers.2⟩
  · exact I2.hb
  · exact I2.prot
  · intro t av ht
    obtain ⟨v, hv, hr⟩ := I.slots t av ht
    refine ⟨v, hv, ?_⟩
    rcases S.sl t av ht with ⟨p, rfl⟩ | ⟨k, off, rfl, hkk⟩ | ⟨f, caps, rfl, hkk⟩ | rfl
    · exact Rp.carry c hr
    · simp only [RpA] at hr ⊢; rw [hk k hkk]; exact hr
    · obtain ⟨vs, h1, h2, h3⟩ := hr
      refine ⟨vs, h1, h2, fun i cp u hc hu => ?_⟩
      have := h3 i cp u hc hu
      cases cp with
      | pv p => exact Rp.carry c this
      | bp k off =>
        have hkf : ks.contains k = false := by
          rw [List.any_eq_false] at hkk
          have := hkk _ (List.mem_of_getElem? hc)
          simpa [capIn] using this
        simp only [CapRp] at this ⊢; rw [hk k hkf]; exact this
    · trivial
  · exact fun x hx => I2.own x (hlive x hx)
  · exact fun x y hx hy => I2.inj x y (hlive x hx) (hlive y hy)
  · intro k cs h
    rw [hbx] at h
    split at h
    · exact I2.boxes k cs h
    · simp at h
  · intro t z h
    rw [hgr] at h; simp [Pl.inC] at h
  · intro k i z h
    rw [hgr] at h
    split at h
    · rename_i hc
      obtain ⟨o, n, cap, cs, bcs, h1, h2, h3, h4⟩ := I2.grc k i z h
      refine ⟨o, n, cap, cs, bcs, ?_, h2, h3, h4⟩
      rw [hbx, if_pos (by simpa [Pl.inC] using hc)]; exact h1
    · simp at h
  · intro t q h
    simp [St.after, look] at h
/-- The slots that a round is handed. -/
def putVals (ps : List Nat) (vs : List Value) (tmps : Array Value) : Array Value := (ps.zip vs).foldl (fun t x => t.setIfInBounds x.1 x.2) tmps
theorem putArgs_ok : ∀ (ps : List Nat) (xs : List PV) (vs : List Value) (st : St) (a : Act) (bk : Key → Nat), Inv base w Pr bk st a N → RpL w Pr xs vs → (∀ p ∈ ps, p < N) →
    ∃ bk', Inv base w Pr bk' (putArgs ps xs st) { a with tmps := putVals ps vs a.tmps } N ∧ ∀ k, bk' (.bx k) = bk (.bx k)
  | [], xs, vs, st, a, bk, I, hr, hp => ⟨bk, by simpa [putArgs, putVals] using I, fun _ => rfl⟩
  | p :: ps, _, _, st, a, bk, I, .nil, hp => ⟨bk, by simpa [putArgs, putVals] using I, fun _ => rfl⟩
  | p :: ps, x :: xs, v :: vs, st, a, bk, I, .cons h hs, hp => by
    have hm : MadeOk base w Pr bk st a { v := .pv x } v := madeOk_pv h
    obtain ⟨bk1, I1, hb1⟩ := I.made0 (hp p (by simp)) hm
    obtain ⟨bk2, I2, hb2⟩ := putArgs_ok ps xs vs _ _ bk1 I1 hs (fun q hq => hp q (List.mem_cons_of_mem _ hq))
    refine ⟨bk2, ?_, fun k => (hb2 k).trans (hb1 k)⟩
    have e : putVals (p :: ps) (v :: vs) a.tmps = putVals ps vs (a.put (some p) v).tmps := rfl
    rw [e]
    exact I2
end
end Go.Proofs.YtibbgjafjhcemaaDoor.Cul
