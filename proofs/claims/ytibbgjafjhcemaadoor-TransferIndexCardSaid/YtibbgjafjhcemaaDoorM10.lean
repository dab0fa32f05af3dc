/- Part of a proof by an abstract machine for the program's code: lemmas, without conditions of their own beyond those that each states. -/
import Derived.Test.YtibbgjafjhcemaaDoorM9
set_option linter.unusedVariables false
set_option linter.unusedSimpArgs false
namespace Go.Proofs.YtibbgjafjhcemaaDoor.Cul
open Go Go.RowKit
section
variable {P : Program} {base : Nat} {w : World} {Pr : Prot} {bk : Key → Nat} {st : St} {a : Act} {N : Nat}
theorem quiet_ok {call : Nat → List PV → Option RV} (hC : CallOk P call) (I : Inv base w Pr bk st a N) {o : Oper} {m : Made} (h : quiet P call o st = some m) : QOk P base w Pr bk st a o m := by
  cases ho : o.op with
  | move x => exact qok_move I ho h
  | pick c x y => exact qok_pick I ho h
  | binOp op t x y u => exact qok_binOp I ho h
  | unOp op t x => exact qok_unOp I ho h
  | convert s d x => exact qok_convert I ho h
  | fieldAddr s x f => exact qok_fieldAddr I ho h
  | field s x f => exact qok_field I ho h
  | indexAddr t x i => exact qok_indexAddr I ho h
  | index t x i => exact qok_index I ho h
  | load t x => exact qok_load I ho h
  | build t ps => exact qok_build I ho h
  | buildSlice t n ps => exact qok_buildSlice I ho h
  | extract x i => exact qok_extract I ho h
  | slice t x lo hi mx => exact qok_slice I ho h
  | makeFunc f fi ca => exact qok_makeFunc I ho h
  | nilCheck x => exact qok_nilCheck I ho h
  | call c =>
    obtain ⟨callee, args, ts⟩ := c
    cases callee with
    | value g => exact qok_call I hC ho h
    | builtin b =>
      cases b with
      | len => exact qok_len I ho h
      | max => exact qok_max I ho h
      | min => exact qok_min I ho h
      | _ => simp [quiet, ho] at h
    | invoke r n => simp [quiet, ho] at h
  | _ => simp [quiet, ho] at h

/-! ### What changes a variable -/
/-- What an effect owes: the frame behind it. -/
def EOk (P : Program) (base : Nat) (w : World) (Pr : Prot) (bk : Key → Nat) (st : St) (a : Act) (N : Nat) (o : Oper) (st' : St) : Prop :=
  ∀ (K : Act → World → Prop) (Q : Exit → Act → World → Prop),
    (∀ a' w' Pr' bk', Inv base w' Pr' bk' st' a' N → Below base w w' → Kp w Pr w' Pr' → (∀ b o, b < base → Pr' b o → Pr b o) → KeepsOthers w w' → (∀ k, o.dst ≠ some k → bk' (.bx k) = bk (.bx k)) → a'.defers = a.defers → K a' w') → o.wp P a w K Q

/-- A frame about which less is said. -/
theorem Inv.less (I : Inv base w Pr bk st a N) {st' : St} (hs : ∀ t av, look st'.sl t = some av → look st.sl t = some av ∨ av = .dead ∧ ∃ v, a.tmps[t]? = some v)
    (hb : ∀ k cs, look st'.bx k = some cs → look st.bx k = some cs) (hg : ∀ p z, lookP st'.gr p = some z → lookP st.gr p = some z ∧ (match p with | .s t => look st'.sl t = look st.sl t | .c k _ => look st'.bx k = look st.bx k))
    (ht : ∀ t q, look st'.tg t = some (some q) → look st.tg t = some (some q))
    (hr : ∀ t u, (look st'.sl t = some (.xr u) ∨ ∃ off, look st'.sl t = some (.xe u off)) → exAt st u → exAt st' u) : Inv base w Pr bk st' a N := by
  have hlive : ∀ x, live st' x → live st x := by
    intro x hx
    cases x with
    | bx k => obtain ⟨cs, h⟩ := hx; exact ⟨cs, hb k cs h⟩
    | sx t =>
      rcases hx with ⟨sz, n, cs, h⟩ | ⟨z, h⟩
      · rcases hs t _ h with h | ⟨h, _⟩
        · exact .inl ⟨sz, n, cs, h⟩
        · simp at h
      · exact .inr ⟨z, (hg _ z h).1⟩
    | cx k o => obtain ⟨z, h⟩ := hx; exact ⟨z, (hg _ z h).1⟩
  constructor
  · exact I.size
  · exact I.defers
  · exact I.hb
  · exact I.prot
  · intro t av h
    rcases hs t av h with h' | ⟨rfl, v, hv⟩
    · obtain ⟨v, hv, hr'⟩ := I.slots t av h'
      refine ⟨v, hv, ?_⟩
      cases av with
      | xr u => exact ⟨hr'.1, hr t u (.inl h) hr'.2⟩
      | xe u off => exact ⟨hr'.1, hr t u (.inr ⟨off, h⟩) hr'.2⟩
      | _ => exact hr'
    · exact ⟨v, hv, trivial⟩
  · exact fun x hx => I.own x (hlive x hx)
  · exact fun x y hx hy => I.inj x y (hlive x hx) (hlive y hy)
  · exact fun k cs h => I.boxes k cs (hb k cs h)
  · intro t z h
    obtain ⟨h1, h2⟩ := hg _ z h
    obtain ⟨o, n, cap, cs, h3, h4, h5⟩ := I.grs t z h1
    exact ⟨o, n, cap, cs, h2.trans h3, h4, h5⟩
  · intro k i z h
    obtain ⟨h1, h2⟩ := hg _ z h
    obtain ⟨o, n, cap, cs, bcs, h3, h4⟩ := I.grc k i z h1
    exact ⟨o, n, cap, cs, bcs, h2.trans h3, h4⟩
  · intro t q h hq
    obtain ⟨z, hz⟩ := hq
    exact I.tags t q (ht t q h) ⟨z, (hg _ z hz).1⟩
theorem Inv.made0 (I : Inv base w Pr bk st a N) {d : Nat} (hd : d < N) {m : Made} {v : Value} (h : MadeOk base w Pr bk st a m v) : ∃ bk', Inv base w Pr bk' (st.made (some d) m) (a.put (some d) v) N ∧ ∀ k, bk' (.bx k) = bk (.bx k) := by
  obtain ⟨bk', h1, h2⟩ := I.made hd h; exact ⟨bk', h1, fun k => h2 _ (by simp)⟩
theorem made_put (st : St) (d : Nat) (v : AV) : st.put (some d) v = st.made (some d) { v := v } := rfl
theorem eok_value (I : Inv base w Pr bk st a N) {o : Oper} {d : Nat} (hdst : o.dst = some d) (hd : d < N) {m : Made} {v : Value} (he : (execOp a.eval o).run P w = .ok (.value v) w) (h : MadeOk base w Pr bk st a m v) : EOk P base w Pr bk st a N o (st.made (some d) m) := by
  intro K Q hK
  obtain ⟨bk', h1, hbk⟩ := I.made0 hd h
  refine wp_value he ?_
  rw [hdst]
  exact hK _ _ _ _ h1 (Below.refl _ _) (Kp.refl _ _) (fun _ _ _ h => h) (KeepsOthers.refl _) (fun k _ => hbk k) rfl
theorem lookP_ne (st : St) (p q : Pl) : lookP (st.gr.filter (fun x => x.1 ≠ p)) q = if q = p then none else lookP st.gr q := by
  have := lookP_filter (fun x => decide (x ≠ p)) st.gr q
  simp only [ne_eq, decide_not, Bool.not_eq_eq_eq_not, Bool.not_true, decide_eq_false_iff_not, ite_not] at this ⊢
  exact this
theorem look_killT (p : Pl) (l : List (Nat × Option Pl)) (t : Nat) : look (l.map (killT p)) t = (look l t).map fun q => if q = some p then none else q :=
  look_map (killT p) (fun _ q => if q = some p then none else q) (fun _ => rfl) l t
/-- An array's row goes over to another slot: nobody else may append to it any more. -/
theorem Inv.release (I : Inv base w Pr bk st a N) (p : Pl) : Inv base w Pr bk { st with gr := st.gr.filter (fun x => x.1 ≠ p), tg := st.tg.map (killT p) } a N := by
  refine I.less (fun t av h => .inl h) (fun k cs h => h) (fun q z h => ?_) (fun t q h => ?_) (fun t u _ h => h)
  · simp only at h
    rw [lookP_ne] at h
    split at h
    · simp at h
    · exact ⟨h, by cases q <;> rfl⟩
  · simp only at h
    rw [look_killT] at h
    cases hq : look st.tg t with
    | none => simp [hq] at h
    | some x =>
      simp only [hq, Option.map_some, Option.some.injEq] at h
      split at h
      · simp at h
      · rw [h]
theorem live_release {p : Pl} {x : Key} (h : live { st with gr := st.gr.filter (fun x => x.1 ≠ p), tg := st.tg.map (killT p) } x) (hp : ∀ t, p = .s t → ¬ exAt st t) : live st x ∧ x ≠ p.key := by
  cases x with
  | bx k => exact ⟨h, by cases p <;> simp [Pl.key]⟩
  | sx t =>
    rcases h with h | ⟨z, h⟩
    · refine ⟨.inl h, fun e => ?_⟩
      cases p with
      | s u => simp [Pl.key] at e; subst e; exact hp t rfl h
      | c k o => simp [Pl.key] at e
    · simp only at h; rw [lookP_ne] at h
      split at h
      · simp at h
      · rename_i hne; exact ⟨.inr ⟨z, h⟩, fun e => hne (by cases p with | s u => simp [Pl.key] at e; rw [e] | c k o => simp [Pl.key] at e)⟩
  | cx k o =>
    obtain ⟨z, h⟩ := h
    simp only at h; rw [lookP_ne] at h
    split at h
    · simp at h
    · rename_i hne; exact ⟨⟨z, h⟩, fun e => hne (by cases p with | s u => simp [Pl.key] at e | c k' o' => simp [Pl.key] at e; rw [e.1, e.2])⟩
theorem eok_assign (I : Inv base w Pr bk st a N) {o : Oper} {x : Operand} {st' : St} (ho : o.op = .assign x) (hN : ∀ d, o.dst = some d → d < N) (h : effect P o st = some st') : EOk P base w Pr bk st a N o st' := by
  have he : (execOp a.eval o).run P w = .ok (.value (a.eval x)) w := by simp [execOp, ho]
  simp only [effect, ho] at h
  split at h
  · rename_i t sz n cs heq
    simp only [Option.map_eq_some_iff] at h
    obtain ⟨d, hd, rfl⟩ := h
    obtain ⟨v, hv1, hv2⟩ := I.slots t _ heq
    have hx : a.eval (.tmp t) = v := eval_tmp hv1
    have hlk : ∀ u, look (drop1 st.sl t) u = if u = t then none else look st.sl u := look_drop1 st.sl t
    have hgr0 : lookP st.gr (.s t) = none := by
      cases e : lookP st.gr (.s t) with
      | none => rfl
      | some z => obtain ⟨o', n', cap', cs', h1, _⟩ := I.grs t z e; rw [show look st.sl t = _ from heq] at h1; simp at h1
    have I2 : Inv base w Pr bk { st with sl := (drop1 st.sl t).map (killA t) } a N := by
      refine I.less (fun u av h => ?_) (fun k cs h => h) (fun q z h => ⟨h, ?_⟩) (fun t q h => h) (fun u x h hx => ?_)
      · simp only at h
        rw [look_map (killA t) (fun _ av => if refersTo t av then .dead else av) (fun _ => rfl), hlk] at h
        by_cases e : u = t
        · simp [e] at h
        · rw [if_neg e] at h
          cases hq : look st.sl u with
          | none => simp [hq] at h
          | some y =>
            simp only [hq, Option.map_some, Option.some.injEq] at h
            split at h
            · obtain ⟨v, hv, _⟩ := I.slots u y hq; exact .inr ⟨h.symm, v, hv⟩
            · exact .inl (by rw [h])
      · cases q with
        | s u =>
          simp only
          rw [look_map (killA t) (fun _ av => if refersTo t av then .dead else av) (fun _ => rfl), hlk]
          have e : u ≠ t := fun e => by subst e; rw [hgr0] at h; simp at h
          rw [if_neg e]
          obtain ⟨o', n', cap', cs', h1, _⟩ := I.grs u z h
          rw [h1]; rfl
        | c k o => rfl
      · simp only at h
        obtain ⟨sz', n', cs', hx⟩ := hx
        have hxt : x ≠ t := by
          intro e; subst e
          rcases h with h | ⟨off, h⟩ <;>
          · rw [look_map (killA x) (fun _ av => if refersTo x av then .dead else av) (fun _ => rfl)] at h
            cases hq : look (drop1 st.sl x) u with
            | none => simp [hq] at h
            | some y => simp only [hq, Option.map_some, Option.some.injEq] at h; split at h <;> simp_all [refersTo]
        refine ⟨sz', n', cs', ?_⟩
        simp only
        rw [look_map (killA t) (fun _ av => if refersTo t av then .dead else av) (fun _ => rfl), hlk, if_neg hxt, hx]; rfl
    obtain ⟨o', cap, vs, h1, h2, h3, h4, h5, h6, h7⟩ := hv2
    have hown := I.own (.sx t) (.inl ⟨sz, n, cs, heq⟩)
    have hm : MadeOk base w Pr bk { st with sl := (drop1 st.sl t).map (killA t) } a { v := .ex sz n cs } v := by
      refine ⟨fun h => absurd rfl (h sz n cs), fun sz' n' cs' h => ?_, fun z h => by simp at h, fun q h => by simp at h⟩
      cases h
      refine ⟨rfl, _, o', cap, vs, h1, h2, h3, h4, h5, h6, h7, hown.1, hown.2, fun x hx e => ?_⟩
      have hlx : live st x ∧ x ≠ .sx t := by
        cases x with
        | bx k => exact ⟨hx, by simp⟩
        | cx k o => exact ⟨hx, by simp⟩
        | sx u =>
          have hut : u ≠ t := by
            intro e2; subst e2
            rcases hx with ⟨_, _, _, hx⟩ | ⟨z, hx⟩
            · simp only at hx
              rw [look_map (killA u) (fun _ av => if refersTo u av then .dead else av) (fun _ => rfl), hlk, if_pos rfl] at hx; simp at hx
            · simp only at hx; rw [hgr0] at hx; simp at hx
          refine ⟨?_, by simpa using hut⟩
          rcases hx with ⟨sz', n', cs', hx⟩ | hx
          · simp only at hx
            rw [look_map (killA t) (fun _ av => if refersTo t av then .dead else av) (fun _ => rfl), hlk, if_neg hut] at hx
            cases hq : look st.sl u with
            | none => simp [hq] at hx
            | some y => simp only [hq, Option.map_some, Option.some.injEq] at hx; split at hx <;> simp_all [live, exAt]
          · exact .inr hx
      exact hlx.2 (I.inj x (.sx t) hlx.1 (.inl ⟨sz, n, cs, heq⟩) e)
    intro K Q hK
    obtain ⟨bk', hI, hbk⟩ := I2.made0 (hN d hd) hm
    refine wp_value he ?_
    rw [hd, hx]
    exact hK _ _ _ _ hI (Below.refl _ _) (Kp.refl _ _) (fun _ _ _ h => h) (KeepsOthers.refl _) (fun k _ => hbk k) rfl
  · rename_i t p heq
    simp only [Option.map_eq_some_iff] at h
    obtain ⟨d, hd, h⟩ := h
    obtain ⟨v, hv1, hv2⟩ := I.slots t _ heq
    have hx : a.eval (.tmp t) = v := eval_tmp hv1
    split at h
    · rename_i z hz
      split at h
      · subst h; rw [made_put]
        exact eok_value I hd (hN d hd) he (madeOk_pv (ev_pv I heq))
      · rename_i htd
        subst h
        have I2 := I.release (.s t)
        obtain ⟨o', n, cap, cs, h1, h2, h3⟩ := I.grs t z hz
        have hp : p = .sl z n cs := by
          have e : look st.sl t = some (.pv p) := heq
          rw [h1] at e; simpa using e.symm
        subst hp
        have hval : v = .slice (some ⟨bk (.sx t), o', none⟩) n cap := by rw [hv1] at h2; exact Option.some.inj h2
        have hown := I.own (.sx t) (.inr ⟨z, hz⟩)
        have hne : ¬ exAt st t := fun ⟨_, _, _, e⟩ => by rw [h1] at e; simp at e
        intro K Q hK
        have hm : MadeOk base w Pr bk { st with gr := st.gr.filter (fun x => x.1 ≠ .s t), tg := st.tg.map (killT (.s t)) } a { v := .pv (.sl z n cs), gr := some z } v := by
          refine ⟨fun _ _ => hv2, fun _ _ _ h => by simp at h, fun z' hz' => ?_, fun q h => by simp at h⟩
          simp only [Option.some.injEq] at hz'; subst hz'
          refine ⟨bk (.sx t), o', n, cap, cs, rfl, hval, h3, hown.1, hown.2, fun x hx e => ?_⟩
          obtain ⟨hl, hk⟩ := live_release hx (fun u hu => by cases hu; exact hne)
          exact hk (I.inj x (.sx t) hl (.inr ⟨z, hz⟩) e)
        obtain ⟨bk', hI, hbk⟩ := I2.made0 (hN d hd) hm
        refine wp_value he ?_
        rw [hd, hx]
        exact hK _ _ _ _ hI (Below.refl _ _) (Kp.refl _ _) (fun _ _ _ h => h) (KeepsOthers.refl _) (fun k _ => hbk k) rfl
    · subst h; rw [made_put]
      exact eok_value I hd (hN d hd) he (madeOk_pv (ev_pv I heq))
  · rename_i p hx heq
    simp only [Option.map_eq_some_iff] at h
    obtain ⟨d, hd, rfl⟩ := h
    rw [made_put]
    exact eok_value I hd (hN d hd) he (madeOk_pv (ev_pv I heq))
  · rename_i f caps heq
    simp only [Option.map_eq_some_iff] at h
    obtain ⟨d, hd, rfl⟩ := h
    rw [made_put]
    obtain ⟨t, hv⟩ := ev_rp I heq
    exact eok_value I hd (hN d hd) he (madeOk_av (by simp) hv)
  · rename_i k off heq
    simp only [Option.map_eq_some_iff] at h
    obtain ⟨d, hd, rfl⟩ := h
    rw [made_put]
    obtain ⟨t, hv⟩ := ev_rp I heq
    exact eok_value I hd (hN d hd) he (madeOk_av (by simp) hv)
  · simp at h
end
end Go.Proofs.YtibbgjafjhcemaaDoor.Cul
