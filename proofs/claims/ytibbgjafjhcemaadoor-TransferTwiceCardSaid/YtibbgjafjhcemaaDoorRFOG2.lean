/- Part of a proof by an abstract machine for the program's code: lemmas, without conditions of their own beyond those that each states. -/
import Derived.LoopN
import Derived.Laws.Sem
import Derived.Test.YtibbgjafjhcemaaDoorCards
import Derived.Test.YtibbgjafjhcemaaDoorTie
import Derived.WalkKit
import Derived.ProofKit
import Derived.OpenShut
import Derived.Deep.DeepHandedRow
import Derived.Lib.LaidTab
import Derived.Test.YtibbgjafjhcemaaDoorRFOG1
/-! M24b -/
set_option linter.unusedVariables false
set_option linter.unusedSimpArgs false
namespace Go.Proofs.YtibbgjafjhcemaaDoor.Cul
open Go Go.RowKit
/-! ### A loop over a function, element by element in order -/
/-- What is protected lies as_ it lay. -/
def Keeps (Pi : Prot) (A B : World) : Prop := ∀ b o v, Pi b o → A.cell? ⟨b, o, none⟩ = some v → B.cell? ⟨b, o, none⟩ = some v
theorem Keeps.trans {Pi : Prot} {A B C : World} (h : Keeps Pi A B) (k : Keeps Pi B C) : Keeps Pi A C := fun b o v h1 h2 => k b o v h1 (h b o v h1 h2)
theorem Keeps.turn {Pi : Prot} {W : World} {l : Nat} {o : Obj} (o' : Obj) (h : W.heap[l]? = some o) (hc : o.isCells = false) : Keeps Pi W (W.putObj l o') := fun b i v h1 h2 => by
  have hb : b ≠ l := fun e => by subst e; rw [cell_none h hc] at h2; simp at h2
  exact (World.cell?_of_block (w := W) (a := ⟨b, i, none⟩) (World.putObj_heap_other hb)).trans h2
/-- What the iterator makes between two rounds is protected from then on. -/
def Prot.plus (Pr : Prot) (A B : World) : Prot := fun b o => Pr b o ∨ (A.heap.size ≤ b ∧ ∃ v, B.cell? ⟨b, o, none⟩ = some v)
/-- What is protected and there. -/
def Prot.here (Pr : Prot) (w : World) : Prot := fun b o => Pr b o ∧ ∃ v, w.cell? ⟨b, o, none⟩ = some v
/-- What an iterator owes: it calls yield with the k-th element, in order, as_ long as_ it is told to go on. -/
def Gives (P : Program) (n : Nat) (g : Nat) (lb : Array Value) (enc : Nat → Array Value) (N : Nat) (Pr : Prot) (w : World) : Prop :=
  ∀ (l : Nat) (J : Nat → Prot → World → Prop) (Jx : World → Prop) (W : World), Below w.heap.size w W → (∀ k Pi A B, J k Pi A → A.grownBy B none → J k (Pi.plus A B) B) → (∀ A B, Jx A → A.grownBy B none → Jx B) →
    (∀ k Pi W1, J k Pi W1 → k < N → YieldAt Fence.wide (n - 1) P l (enc k) W1 fun e W' => (e = .returned (.bool true) ∧ J (k + 1) Pi W' ∧ Keeps Pi W1 W' ∧ W1.heap.size ≤ W'.heap.size) ∨ (e = .returned (.bool false) ∧ Jx W')) →
    J 0 (Pr.here w) W → CallsIn Fence.wide n P g (#[.func (.yield l) #[] #[]] ++ lb) W fun e W' => (∃ v, e = .returned v) ∧ ((∃ Pi, J N Pi W') ∨ Jx W')
def roundOut (B : Nat) (Pi : Prot) (I : World → Prop) (Ix : Code → World → Prop) (W : World) : Exit → Act → World → Prop
  | .normal, _, W' => KeepsFrom B W W' ∧ Keeps Pi W W' ∧ I W'
  | .ret, _, W' => KeepsFrom B W W' ∧ Ix .ret W'
  | .exit id, _, W' => KeepsFrom B W W' ∧ Ix (.exit id) W'
  | _, _, _ => False
/-- An invariant that abides the loop's own book-keeping. -/
def OwnTurn (B : Nat) (I : World → Prop) : Prop := ∀ (W : World) (l : Nat) (o o' : Obj), I W → B ≤ l → W.heap[l]? = some o → o.isCells = false → o'.isCells = false → I (W.putObj l o')
theorem wpIn_rangeFunc_pos {P : Program} {n : Nat} {g : Operand} {ps : Array Tmp} {assign body : Code} {Q : Exit → Act → World → Prop} {a : Act} {w : World}
    (h1 : 1 ≤ n) {gf : Nat} {lb : Array Value} (hg : a.eval g = .func (.func gf) #[] lb) (eg : ∀ args w, (callFunc gf args).run P w = .ok (.enter gf args) w)
    {enc : Nat → Array Value} {Pr : Prot} {N : Nat} (hseq : Gives P (n - 1) gf lb enc N Pr w)
    (hps : ∀ k, k < N → (enc k).size = ps.size)
    (I : Nat → Prot → World → Prop) (Ix : Code → World → Prop) (hI : ∀ k Pi, OwnTurn w.heap.size (I k Pi)) (hIx : ∀ c, OwnTurn w.heap.size (Ix c)) (hIg : ∀ k Pi A B, I k Pi A → A.grownBy B none → I k (Pi.plus A B) B) (hIg0 : ∀ A B, I 0 (Pr.here w) A → A.grownBy B none → I 0 (Pr.here w) B) (hIxg : ∀ c A B, Ix c A → A.grownBy B none → Ix c B) (h0 : I 0 (Pr.here w) w)
    (Ax : Nat → Prot → Act → World → Prop) (hAx : ∀ k Pi a', OwnTurn w.heap.size (Ax k Pi a'))
    (hassign : ∀ (l k : Nat) (Pi : Prot) (W : World) (K : Act → World → Prop), I k Pi W → k < N → (∀ a' W', KeepsFrom w.heap.size W W' → Keeps Pi W W' → Ax k Pi a' W' → K a' W') →
      assign.wpIn (Fence.wide.inRound l) (n - 1 - 1) P (Exit.then K (fun _ _ _ => False)) { tmps := (ps.zip (enc k)).foldl (fun t (p, v) => t.setIfInBounds p v) a.tmps, defers := [] } W)
    (hbody : ∀ (l k : Nat) (Pi : Prot) (a' : Act) (W : World), Ax k Pi a' W → k < N → body.wpIn (Fence.wide.inRound l) (n - 1 - 1) P (roundOut w.heap.size Pi (I (k + 1) Pi) Ix W) a' W)
    (hdone : ∀ (D : Nat) (Pi : Prot) (W : World), w.heap.size ≤ D → I N Pi W → W.heap[D]? = some (.deferred (some [])) → Q .normal { a with defers := { target := .collected D, args := #[] } :: a.defers } W)
    (hstop : ∀ (D : Nat) (c : Code) (W : World), w.heap.size ≤ D → Ix c W → W.heap[D]? = some (.deferred (some [])) → c.wpIn Fence.wide n P Q { a with defers := { target := .collected D, args := #[] } :: a.defers } W) :
    (Code.rangeFunc g ps assign body).wpIn Fence.wide n P Q a w := by
  refine wpIn_rangeFunc ?_
  intro fn hfn
  obtain ⟨rec, hrec⟩ : ∃ rec : LoopState → Option Code → Loop, rec = fun st pe => { state := st, pending := pe, fn, tmps := a.tmps, params := ps, assign, body, defers := w.heap.size } := ⟨_, rfl⟩
  obtain ⟨W1, hW1⟩ : ∃ W1, (w.alloc (.deferred (some []))).alloc (.loop (rec .ready none)) = W1 := ⟨_, rfl⟩
  have hL1 : W1.heap[w.heap.size + 1]? = some (.loop (rec .ready none)) := by
    rw [← hW1]; have := World.alloc_heap_new (w.alloc (.deferred (some []))) (.loop (rec .ready none)); rwa [World.size_alloc] at this
  have hK1 : W1.heap[w.heap.size]? = some (.deferred (some [])) := by
    rw [← hW1]; exact (Below.heap_alloc _ _ _ (by simp)).trans (World.alloc_heap_new w _)
  have hI1 : I 0 (Pr.here w) W1 := by rw [← hW1]; exact hIg0 _ _ (hIg0 _ _ h0 (World.grownBy_alloc _ _ none)) (World.grownBy_alloc _ _ none)
  have hb1 : Below w.heap.size w W1 := by
    rw [← hW1]; exact ((Below.refl _ w).alloc (Nat.le_refl _) _).alloc (by simp) _
  have still : ∀ {A B : World} {k : Nat} {o : Obj}, A.grownBy B none → A.heap[k]? = some o → B.heap[k]? = some o := fun hg hk => (hg.block _ (Array.getElem?_eq_some_iff.1 hk).1 (by simp)).trans hk
  refine ⟨w.heap.size + 1, [{ target := .collected w.heap.size, args := #[] }], W1, { target := .fn (.func gf) lb, args := #[.func (.yield (w.heap.size + 1)) #[] #[]] }, W1, gf,
    #[.func (.yield (w.heap.size + 1)) #[] #[]] ++ lb, W1, ?_, ?_, fun _ _ => trivial, ?_, fun _ => h1, ?_⟩
  · rw [← hW1, hrec]; exact run_enterLoop_outer _ _ _ _ _
  · simp only [resolve, hg]
    simp [go_sem]
  · simp [invoke, go_sem, eg]
  · refine (hseq (w.heap.size + 1)
      (fun k Pi W => I k Pi W ∧ W.heap[w.heap.size + 1]? = some (.loop (rec .ready none)) ∧ W.heap[w.heap.size]? = some (.deferred (some [])))
      (fun W => ∃ c, Ix c W ∧ W.heap[w.heap.size + 1]? = some (.loop (rec .done (some c))) ∧ W.heap[w.heap.size]? = some (.deferred (some [])))
      W1 hb1 (fun k Pi A B hs hg' => ⟨hIg k Pi A B hs.1 hg', still hg' hs.2.1, still hg' hs.2.2⟩)
      (fun A B hs hg' => by obtain ⟨c, hc, hl, hk⟩ := hs; exact ⟨c, hIxg c A B hc hg', still hg' hl, still hg' hk⟩)
      ?_ ⟨hI1, hL1, hK1⟩).mono ?_
    · -- one round
      rintro k Pi W ⟨hi, hl, hk⟩ hlen
      have hy := run_yield (P := P) (args := enc k) hl (by rw [hrec]; exact hps k hlen)
      rw [hrec] at hy
      refine ⟨fn, _, assign, body, hy, roundIn_of_wpIn hfn (hassign _ k Pi W _ hi hlen ?_)⟩
      clear hy
      intro a' Wa hkf hkp hax
      have hla := hkf.same _ _ (by omega) hl rfl
      have hka := hkf.same _ _ (Nat.le_refl _) hk rfl
      have hlt : w.heap.size + 1 < Wa.heap.size := (Array.getElem?_eq_some_iff.1 hla).1
      refine ⟨_, run_beginRound hla (by rw [hrec]), ?_⟩
      have hl2 : (Wa.putObj (w.heap.size + 1) (.loop { rec .ready none with state := .busy })).heap[w.heap.size + 1]? = some (.loop { rec .ready none with state := .busy }) := World.putObj_heap_same hlt
      have hk2 : (Wa.putObj (w.heap.size + 1) (.loop { rec .ready none with state := .busy })).heap[w.heap.size]? = some (.deferred (some [])) := (World.putObj_heap_other (by omega)).trans hka
      have hw2 : Keeps Pi Wa (Wa.putObj (w.heap.size + 1) (.loop { rec .ready none with state := .busy })) := Keeps.turn _ hla rfl
      refine wpIn_mono (hbody _ k Pi a' _ (hAx k Pi a' _ _ _ _ hax (by omega) hla rfl rfl) hlen) ?_
      have fin : ∀ (jump : Option Code) (W3 : World), KeepsFrom w.heap.size (Wa.putObj (w.heap.size + 1) (.loop { rec .ready none with state := .busy })) W3 →
          (Instr.endRound (w.heap.size + 1) jump).run P W3 = .ok (.bool jump.isNone) (W3.putObj (w.heap.size + 1) (.loop (rec (if jump.isNone then .ready else .done) jump))) ∧
          W3.heap[w.heap.size + 1]? = some (.loop { rec .ready none with state := .busy }) ∧
          (W3.putObj (w.heap.size + 1) (.loop (rec (if jump.isNone then .ready else .done) jump))).heap[w.heap.size + 1]? = some (.loop (rec (if jump.isNone then .ready else .done) jump)) ∧
          (W3.putObj (w.heap.size + 1) (.loop (rec (if jump.isNone then .ready else .done) jump))).heap[w.heap.size]? = some (.deferred (some [])) := fun jump W3 hk3 => by
        have hl3 := hk3.same _ _ (by omega) hl2 rfl
        have := run_endRound (P := P) jump hl3
        rw [hrec] at this ⊢
        exact ⟨this, by rw [hrec] at hl3; exact hl3, World.putObj_heap_same (Array.getElem?_eq_some_iff.1 hl3).1, (World.putObj_heap_other (by omega)).trans (hk3.same _ _ (Nat.le_refl _) hk2 rfl)⟩
      rintro e a3 W3 hp
      cases e with
      | normal =>
        obtain ⟨hk3, hkp3, hi3⟩ := hp
        obtain ⟨hr, hl3, hl4, hk4⟩ := fin none W3 hk3
        exact ⟨_, _, hr, .inl ⟨rfl, ⟨hI _ _ _ _ _ _ hi3 (by omega) hl3 rfl rfl, hl4, hk4⟩, hkp.trans ((hw2.trans hkp3).trans (Keeps.turn _ hl3 rfl)), by
          have h1 := hkf.size
          have h2 := hk3.size
          simp at h2 ⊢
          omega⟩⟩
      | ret =>
        obtain ⟨hk3, hi3⟩ := hp
        obtain ⟨hr, hl3, hl4, hk4⟩ := fin (some .ret) W3 hk3
        exact ⟨_, _, hr, .inr ⟨rfl, .ret, hIx _ _ _ _ _ hi3 (by omega) hl3 rfl rfl, hl4, hk4⟩⟩
      | exit id =>
        obtain ⟨hk3, hi3⟩ := hp
        obtain ⟨hr, hl3, hl4, hk4⟩ := fin (some (.exit id)) W3 hk3
        exact ⟨_, _, hr, .inr ⟨rfl, .exit id, hIx _ _ _ _ _ hi3 (by omega) hl3 rfl rfl, hl4, hk4⟩⟩
      | goto t => exact hp.elim
      | panic ch => exact hp.elim
      | outgrown => exact hp.elim
    · -- behind the iterator
      rintro e W2 ⟨⟨v, rfl⟩, (⟨Pi, hi, hl, hk⟩ | ⟨c, hi, hl, hk⟩)⟩
      · exact ⟨none, _, by have := run_endLoop (P := P) hl (by rw [hrec]; simp); rw [hrec] at this; exact this, hdone _ Pi _ (Nat.le_refl _) (hI _ _ _ _ _ _ hi (by omega) hl rfl rfl) ((World.putObj_heap_other (by omega)).trans hk)⟩
      · exact ⟨some c, _, by have := run_endLoop (P := P) hl (by rw [hrec]; simp); rw [hrec] at this; exact this, hstop _ c _ (Nat.le_refl _) (hIx _ _ _ _ _ hi (by omega) hl rfl rfl) ((World.putObj_heap_other (by omega)).trans hk)⟩
end Go.Proofs.YtibbgjafjhcemaaDoor.Cul
/-! M24c -/
set_option linter.unusedVariables false
set_option linter.unusedSimpArgs false
namespace Go.Proofs.YtibbgjafjhcemaaDoor.Cul
open Go Go.RowKit
section
variable {pin : Pins} {P : Program} {base : Nat} {w w' w0 : World} {Pr Pr' Pr0 : Prot} {bk bk' : Key → Nat} {st st1 s2 : St} {a a' : Act} {N : Nat}
/-- What is there and protected is carried over. -/
def Carry (w : World) (Pr : Prot) (w' : World) (Pr' : Prot) : Prop := ∀ b o v, Pr b o → w.cell? ⟨b, o, none⟩ = some v → Pr' b o ∧ w'.cell? ⟨b, o, none⟩ = some v
mutual
theorem Rp.carry (c : Carry w Pr w' Pr') : ∀ {p : PV} {v : Value}, Rp w Pr p v → Rp w' Pr' p v
  | _, _, .lit h => .lit h
  | _, _, .sl hr h1 hl hn hc hp => .sl (RpL.carry c hr) h1 hl hn (fun j v hj => (c _ _ v (hp j (List.getElem?_eq_some_iff.1 hj).1) (hc j v hj)).2) (fun i hi => (c _ _ _ (hp i hi) (hc i _ (List.getElem?_eq_getElem hi))).1)
  | _, _, .sl0 => .sl0
  | _, _, .el hr h1 hc hp => .el (RpL.carry c hr) h1 (fun j v hj => (c _ _ v (hp j (List.getElem?_eq_some_iff.1 hj).1) (hc j v hj)).2) (fun i hi => (c _ _ _ (hp i hi) (hc i _ (List.getElem?_eq_getElem hi))).1)
  | _, _, .fn hr => .fn (RpL.carry c hr)
  | _, _, .ag hr h1 => .ag (RpL.carry c hr) h1
  | _, _, .tup hr => .tup (RpL.carry c hr)
theorem RpL.carry (c : Carry w Pr w' Pr') : ∀ {cs : List PV} {vs : List Value}, RpL w Pr cs vs → RpL w' Pr' cs vs
  | _, _, .nil => .nil
  | _, _, .cons h hs => .cons (Rp.carry c h) (RpL.carry c hs)
end
theorem Good.own {r0 : Option Nat} {ds : List Deferred} (hds : pin.ds = some ds) (hm : ∀ d ∈ ds, Mark base w0 d) (hbw : base ≤ w0.heap.size) (G : Good base w0 Pr0 N pin st a w) (hg : w.grownBy w' r0) (hr : ∀ r, r0 = some r → w0.heap.size ≤ r ∧ ∃ o : Obj, w.heap[r]? = some o ∧ o.isCells = false) : Good base w0 Pr0 N pin st a w' := by
  obtain ⟨Pr, bk, I, hb, hp, hko, hpn, hkc, hdf⟩ := G
  have hkeep : KO w0 w' := hko.grown hg (fun r e => (hr r e).1)
  have hbel : Below base w0 w' := hb.grown hg (Nat.le_trans hbw hb.size) (fun k e => Nat.le_trans hbw (hr k e).1)
  cases r0 with
  | none =>
    have hf : Fw w Pr w' Pr := ⟨(Below.refl _ w).grown hg (Nat.le_refl _) (by simp), fun _ _ h => h, fun _ _ _ h => h, fun b o h => Nat.lt_of_lt_of_le (I.prot b o h) hg.size⟩
    refine ⟨Pr, bk, I.fw hf, hbel, hp, hkeep, hpn, fun b o v h1 h2 => ?_, hdf⟩
    obtain ⟨h3, h4⟩ := hkc b o v h1 h2
    exact ⟨h3, ((hf.kp I.prot).cell b o h3).trans h4⟩
  | some r =>
    obtain ⟨hlo, o, ho, hc⟩ := hr r rfl
    have I2 := I.turn hg (r := r) (fun r' e => by cases e; rfl) ho hc (fun d hd e => by
      rw [hdf ds hds] at hd
      obtain ⟨D, e1, e2, _⟩ := hm d hd
      rw [e1] at e
      have : D = r := by simpa using e
      have := (Array.getElem?_eq_some_iff.1 e2).1
      omega)
    refine ⟨_, bk, I2, hbel, fun b o hlt h => hp b o hlt h.1, hkeep, hpn, fun b i v h1 h2 => ?_, hdf⟩
    obtain ⟨h3, h4⟩ := hkc b i v h1 h2
    have hbr : b ≠ r := fun e => by subst e; rw [cell_none ho hc] at h4; simp at h4
    refine ⟨⟨h3, hbr⟩, (World.cell?_of_block (w := w) (a := ⟨b, i, none⟩) ?_).trans h4⟩
    exact hg.block b (I.prot b i h3) (fun e => hbr (by cases e; rfl))
/-- A frame that a loop over a function may begin with. -/
structure Shed (ks : List Nat) (st1 : St) : Prop where
  sl : ∀ t av, look st1.sl t = some av → (∃ p, av = .pv p) ∨ (∃ k off, av = .bp k off ∧ ks.contains k = false) ∨ (∃ f caps, av = .cl f caps ∧ caps.any (capIn ks) = false) ∨ av = .dead
  bx : ∀ k cs, look st1.bx k = some cs → ks.contains k = false
theorem look_shed (st : St) (ks : List Nat) (t : Nat) : look (st.shed ks).sl t = (look st.sl t).map (shedV ks) := look_map (shedX ks) (fun _ v => shedV ks v) (fun _ => rfl) st.sl t
theorem shed_shed (st : St) (ks : List Nat) : Shed ks (st.shed ks) := by
  constructor
  · intro t av h
    rw [look_shed] at h
    cases e : look st.sl t with
    | none => simp [e] at h
    | some v =>
      simp only [e, Option.map_some, Option.some.injEq] at h
      subst h
      cases v with
      | pv p => exact .inl ⟨p, rfl⟩
      | bp k off =>
        simp only [shedV]
        cases hk : ks.contains k with
        | true => simp
        | false => exact .inr (.inl ⟨k, off, by simp, hk⟩)
      | cl f caps =>
        simp only [shedV]
        cases hk : caps.any (capIn ks) with
        | true => simp
        | false => exact .inr (.inr (.inl ⟨f, caps, by simp, hk⟩))
      | _ => exact .inr (.inr (.inr rfl))
  · intro k cs h
    simp only [St.shed] at h
    rw [look_filter (fun x => !ks.contains x)] at h
    split at h
    · rename_i hk; simpa using hk
    · simp at h
theorem Inv.shed (I : Inv base w Pr bk st a N) (ks : List Nat) : Inv base w Pr bk (st.shed ks) a N := by
  refine I.less (fun t av h => ?_) (fun k cs h => ?_) (fun p z h => ?_) (fun t q h => by simp [St.shed, look] at h) (fun t u h _ => ?_) (fun t av j h hj _ _ => ?_)
  · rw [look_shed] at h
    cases e : look st.sl t with
    | none => simp [e] at h
    | some v =>
      simp only [e, Option.map_some, Option.some.injEq] at h
      obtain ⟨u, hu, _⟩ := I.slots t v e
      subst h
      cases v with
      | pv p => exact .inl rfl
      | bp k off =>
        simp only [shedV]
        split
        · exact .inr ⟨rfl, u, hu⟩
        · exact .inl rfl
      | cl f caps =>
        simp only [shedV]
        split
        · exact .inr ⟨rfl, u, hu⟩
        · exact .inl rfl
      | _ => exact .inr ⟨rfl, u, hu⟩
  · simp only [St.shed] at h
    rw [look_filter (fun x => !ks.contains x)] at h
    split at h
    · exact h
    · simp at h
  · simp only [St.shed] at h
    rw [lookP_filter (Pl.inC fun k => !ks.contains k)] at h
    split at h
    · rename_i hk
      refine ⟨h, ?_⟩
      cases p with
      | s t => simp [Pl.inC] at hk
      | c k o =>
        simp only [Pl.inC] at hk
        show look (st.shed ks).bx k = look st.bx k
        simp only [St.shed]
        rw [look_filter (fun x => !ks.contains x), if_pos hk]
    · simp at h
  · exfalso
    have := (shed_shed st ks).sl t
    rcases h with h | ⟨off, h⟩
    · rcases this _ h with ⟨p, e⟩ | ⟨k, o, e, _⟩ | ⟨f, c, e, _⟩ | e <;> simp at e
    · rcases this _ h with ⟨p, e⟩ | ⟨k, o, e, _⟩ | ⟨f, c, e, _⟩ | e <;> simp at e
  · exfalso
    rcases (shed_shed st ks).sl t av h with ⟨p, e⟩ | ⟨k, o, e, _⟩ | ⟨f, c, e, _⟩ | e <;> subst e <;> simp [refK] at hj
end
end Go.Proofs.YtibbgjafjhcemaaDoor.Cul
/-! M24d -/
set_option linter.unusedVariables false
set_option linter.unusedSimpArgs false
namespace Go.Proofs.YtibbgjafjhcemaaDoor.Cul
open Go Go.RowKit
section
variable {pin : Pins} {P : Program} {base : Nat} {w w' w0 : World} {Pr Pr' Pr0 : Prot} {bk bk' : Key → Nat} {st st1 s2 : St} {a a' : Act} {N : Nat} {ks : List Nat}
theorem look_filter' {α : Type} (f : Nat → Bool) (l : List (Nat × α)) (t : Nat) : look (l.filter (fun x => f x.1)) t = if f t then look l t else none := look_filter f l t
/-- Behind a round: the slots of old, the variables as_ the round has left them. -/
theorem after_ok (I : Inv base w Pr bk st1 a N) (S : Shed ks st1) (I2 : Inv base w' Pr' bk' s2 a' N) (c : Carry w Pr w' Pr') (hk : ∀ k, ks.contains k = false → bk' (.bx k) = bk (.bx k)) (ko : KO w w') :
    Inv base w' Pr' bk' (st1.after s2) a N := by
  have hbx : ∀ k, look (st1.after s2).bx k = if (look st1.bx k).isSome then look s2.bx k else none := fun k => look_filter' (fun k => (look st1.bx k).isSome) s2.bx k
  have hgr : ∀ p, lookP (st1.after s2).gr p = if p.inC (fun k => (look st1.bx k).isSome) then lookP s2.gr p else none := fun p => lookP_filter (Pl.inC fun k => (look st1.bx k).isSome) s2.gr p
  have hlive : ∀ x, live (st1.after s2) x → live s2 x := by
    intro x hx
    cases x with
    | bx k =>
      obtain ⟨cs, h⟩ := hx
      rw [hbx] at h
      split at h
      · exact ⟨cs, h⟩
      · simp at h
    | sx t =>
      exfalso
      rcases hx with ⟨sz, n, cs, h⟩ | ⟨z, h⟩
      · rcases S.sl t _ h with ⟨p, e⟩ | ⟨k, o, e, _⟩ | ⟨f, c, e, _⟩ | e <;> simp at e
      · rw [hgr] at h; simp [Pl.inC] at h
    | cx k o =>
      obtain ⟨z, h⟩ := hx
      rw [hgr] at h
      split at h
      · exact ⟨z, h⟩
      · simp at h
  constructor
  · exact I.size
  · exact ⟨fun d hd => (I.defers.1 d hd).ko ko, I.defers.2⟩
  · exact I2.hb
  · exact I2.prot
  · intro t av ht
    obtain ⟨v, hv, hr⟩ := I.slots t av ht
    refine ⟨v, hv, ?_⟩
    rcases S.sl t av ht with ⟨p, rfl⟩ | ⟨k, off, rfl, hkk⟩ | ⟨f, caps, rfl, hkk⟩ | rfl
    · exact Rp.carry c hr
    · simp only [RpA] at hr ⊢; rw [hk k hkk]; exact hr
    · obtain ⟨vs, h1, h2, h3⟩ := hr
      refine ⟨vs, h1, h2, fun i cp u hc hu => ?_⟩
      have := h3 i cp u hc hu
      cases cp with
      | pv p => exact Rp.carry c this
      | bp k off =>
        have hkf : ks.contains k = false := by
          rw [List.any_eq_false] at hkk
          have := hkk _ (List.mem_of_getElem? hc)
          simpa [capIn] using this
        simp only [CapRp] at this ⊢; rw [hk k hkf]; exact this
    · trivial
  · exact fun x hx => I2.own x (hlive x hx)
  · exact fun x y hx hy => I2.inj x y (hlive x hx) (hlive y hy)
  · intro k cs h
    rw [hbx] at h
    split at h
    · exact I2.boxes k cs h
    · simp at h
  · intro t z h
    rw [hgr] at h; simp [Pl.inC] at h
  · intro k i z h
    rw [hgr] at h
    split at h
    · rename_i hc
      obtain ⟨o, n, cap, cs, bcs, h1, h2, h3, h4⟩ := I2.grc k i z h
      refine ⟨o, n, cap, cs, bcs, ?_, h2, h3, h4⟩
      rw [hbx, if_pos (by simpa [Pl.inC] using hc)]; exact h1
    · simp at h
  · intro t q h
    simp [St.after, look] at h
/-- The slots that a round is handed. -/
def putVals (ps : List Nat) (vs : List Value) (tmps : Array Value) : Array Value := (ps.zip vs).foldl (fun t x => t.setIfInBounds x.1 x.2) tmps
theorem putArgs_ok : ∀ (ps : List Nat) (xs : List PV) (vs : List Value) (st : St) (a : Act) (bk : Key → Nat), Inv base w Pr bk st a N → RpL w Pr xs vs → (∀ p ∈ ps, p < N) →
    ∃ bk', Inv base w Pr bk' (putArgs ps xs st) { a with tmps := putVals ps vs a.tmps } N ∧ ∀ k, bk' (.bx k) = bk (.bx k)
  | [], xs, vs, st, a, bk, I, hr, hp => ⟨bk, by simpa [putArgs, putVals] using I, fun _ => rfl⟩
  | p :: ps, _, _, st, a, bk, I, .nil, hp => ⟨bk, by simpa [putArgs, putVals] using I, fun _ => rfl⟩
  | p :: ps, x :: xs, v :: vs, st, a, bk, I, .cons h hs, hp => by
    have hm : MadeOk base w Pr bk st a { v := .pv x } v := madeOk_pv h
    obtain ⟨bk1, I1, hb1⟩ := I.made0 (hp p (by simp)) hm
    obtain ⟨bk2, I2, hb2⟩ := putArgs_ok ps xs vs _ _ bk1 I1 hs (fun q hq => hp q (List.mem_cons_of_mem _ hq))
    refine ⟨bk2, ?_, fun k => (hb2 k).trans (hb1 k)⟩
    have e : putVals (p :: ps) (v :: vs) a.tmps = putVals ps vs (a.put (some p) v).tmps := rfl
    rw [e]
    exact I2
end
end Go.Proofs.YtibbgjafjhcemaaDoor.Cul
/-! M24e -/
set_option linter.unusedVariables false
set_option linter.unusedSimpArgs false
namespace Go.Proofs.YtibbgjafjhcemaaDoor.Cul
open Go Go.RowKit
def toExit : Xt → Exit
  | .normal => .normal
  | .exit id => .exit id
  | .ret => .ret
/-- What is told of the iterators. -/
def IterOk (P : Program) (it : Nat → List PV → Option (Nat × List (List PV))) : Prop :=
  ∀ f caps k xs, it f caps = some (k, xs) → HasBody P f ∧ ∀ (vs : List Value) (w : World) (Pr : Prot), (∀ b o, Pr b o → b < w.heap.size) → RpL w Pr caps vs →
    ∃ enc : Nat → List Value, (∀ i x, xs[i]? = some x → (enc i).length = k ∧ ∀ W Pr', RpL W Pr' x (enc i)) ∧ ∀ n, 1 ≤ n → Gives P n f vs.toArray (fun i => (enc i).toArray) xs.length Pr w
def jumpOf : Xt → Code
  | .normal => .skip
  | .exit id => .exit id
  | .ret => .ret
section
variable {pin : Pins} {P : Program} {base : Nat} {w w' w0 : World} {Pr Pr' Pr0 : Prot} {bk bk' : Key → Nat} {st st1 s2 : St} {a a' : Act} {N m : Nat} {ks : List Nat}
theorem zip_vals (ps : Array Nat) (vs : List Value) (tmps : Array Value) : (ps.zip vs.toArray).foldl (fun t (p, v) => t.setIfInBounds p v) tmps = putVals ps.toList vs tmps := by
  unfold putVals
  rw [← Array.foldl_toList, Array.toList_zip]
/-- A part of a loop's body, as_ the machine runs it. -/
def Part (P : Program) (base N : Nat) (m : Nat) (ks : List Nat) (c : Code) (f : St → Option (Xt × St)) : Prop :=
  ∀ (l : Nat) (w0 : World) (Pr0 : Prot) (pin : Pins) (st : St) (a : Act) (w : World) (x : Xt) (s : St), (∀ d, ks.contains d = true → pin.k d = none) → Good base w0 Pr0 N pin st a w → f st = some (x, s) →
    ∀ Q : Exit → Act → World → Prop, (∀ a' w', Good base w0 Pr0 N pin s a' w' → Q (toExit x) a' w') → c.wpIn (Fence.wide.inRound l) m P Q a w
theorem Good.renew {pin2 : Pins} (h : Good base w0 Pr0 N pin st a w) (hp : ∀ Pr bk, Inv base w Pr bk st a N → (∀ k b, pin.k k = some b → bk (.bx k) = b) → (∀ k b, pin2.k k = some b → bk (.bx k) = b)) (hd : ∀ ds, pin2.ds = some ds → a.defers = ds) :
    ∃ Pr bk, Inv base w Pr bk st a N ∧ Good base w Pr N pin2 st a w := by
  obtain ⟨Pr, bk, I, hb, ho, hko, hpn, hkc, hdf⟩ := h
  exact ⟨Pr, bk, I, Pr, bk, I, Below.refl _ _, fun _ _ _ h => h, KO.refl _, hp Pr bk I hpn, fun _ _ _ h1 h2 => ⟨h1, h2⟩, hd⟩
/-- A frame that keeps what the iterator leans on. -/
def GoodP (base : Nat) (w0 : World) (Pr0 : Prot) (N : Nat) (pin : Pins) (Pi : Prot) (st : St) (a : Act) (w : World) : Prop :=
  ∃ Pr bk, Inv base w Pr bk st a N ∧ Below base w0 w ∧ (∀ b o, b < base → Pr b o → Pr0 b o) ∧ KO w0 w ∧ (∀ k b, pin.k k = some b → bk (.bx k) = b) ∧ (∀ b o v, Pr0 b o → w0.cell? ⟨b, o, none⟩ = some v → Pr b o ∧ w.cell? ⟨b, o, none⟩ = some v) ∧ (∀ ds, pin.ds = some ds → a.defers = ds) ∧
    ∀ b o, Pi b o → Pr b o ∧ ∃ v, w.cell? ⟨b, o, none⟩ = some v
theorem GoodP.good {Pi : Prot} (h : GoodP base w0 Pr0 N pin Pi st a w) : Good base w0 Pr0 N pin st a w := by
  obtain ⟨Pr, bk, I, h1, h2, h3, h4, h5, h6, _⟩ := h
  exact ⟨Pr, bk, I, h1, h2, h3, h4, h5, h6⟩
theorem GoodP.turn {Pi : Prot} {ds : List Deferred} (hds : pin.ds = some ds) (hm : ∀ d ∈ ds, Mark base w0 d) (hbw : base ≤ w0.heap.size) (G : GoodP base w0 Pr0 N pin Pi st a w) {l : Nat} {o o' : Obj} (hl : w0.heap.size ≤ l) (ho : w.heap[l]? = some o) (hc : o.isCells = false) : GoodP base w0 Pr0 N pin Pi st a (w.putObj l o') := by
  obtain ⟨Pr, bk, I, hb, hp, hko, hpn, hkc, hdf, hPi⟩ := G
  have hg : w.grownBy (w.putObj l o') (some l) := grownBy_putObj' w l _
  have I2 := I.turn hg (r := l) (fun r' e => by cases e; rfl) ho hc (fun d hd e => by
    rw [hdf ds hds] at hd
    obtain ⟨D, e1, e2, _⟩ := hm d hd
    rw [e1] at e
    have : D = l := by simpa using e
    have := (Array.getElem?_eq_some_iff.1 e2).1
    omega)
  have hne : ∀ b i v, w.cell? ⟨b, i, none⟩ = some v → b ≠ l ∧ (w.putObj l o').cell? ⟨b, i, none⟩ = some v := fun b i v h4 => by
    have hbr : b ≠ l := fun e => by subst e; rw [cell_none ho hc] at h4; simp at h4
    exact ⟨hbr, (World.cell?_of_block (w := w) (a := ⟨b, i, none⟩) (World.putObj_heap_other hbr)).trans h4⟩
  refine ⟨_, bk, I2, hb.grown hg (Nat.le_trans hbw hb.size) (fun k e => by cases e; exact Nat.le_trans hbw hl), fun b o hlt h => hp b o hlt h.1, hko.grown hg (fun r e => by cases e; exact hl), hpn, fun b i v h1 h2 => ?_, hdf, fun b i h => ?_⟩
  · obtain ⟨h3, h4⟩ := hkc b i v h1 h2
    obtain ⟨h5, h6⟩ := hne b i v h4
    exact ⟨⟨h3, h5⟩, h6⟩
  · obtain ⟨h3, v, h4⟩ := hPi b i h
    obtain ⟨h5, h6⟩ := hne b i v h4
    exact ⟨⟨h3, h5⟩, v, h6⟩
theorem cell_lt {w : World} {b o : Nat} {v : Value} (h : w.cell? ⟨b, o, none⟩ = some v) : b < w.heap.size := by
  unfold World.cell? at h
  cases e : w.heap[b]? with
  | none => simp [e] at h
  | some ob => exact (Array.getElem?_eq_some_iff.1 e).1
theorem GoodP.grow {Pi : Prot} (hbw : base ≤ w0.heap.size) (G : GoodP base w0 Pr0 N pin Pi st a w) (hg : w.grownBy w' none) : GoodP base w0 Pr0 N pin (Pi.plus w w') st a w' := by
  obtain ⟨Pr, bk, I, hb, hp, hko, hpn, hkc, hdf, hPi⟩ := G
  have hbel : Below w.heap.size w w' := (Below.refl _ w).grown hg (Nat.le_refl _) (by simp)
  obtain ⟨Pr', hP'⟩ : ∃ Pr' : Prot, ∀ b o, Pr' b o ↔ (Pr b o ∨ (w.heap.size ≤ b ∧ b < w'.heap.size)) := ⟨fun b o => _, fun _ _ => Iff.rfl⟩
  have hf : Fw w Pr w' Pr' := ⟨hbel, fun b o h => (hP' b o).2 (.inl h), fun b o hb h => ((hP' b o).1 h).resolve_right (fun h => by omega), fun b o h => ((hP' b o).1 h).elim (fun h => Nat.lt_of_lt_of_le (I.prot b o h) hg.size) (fun h => h.2)⟩
  have hcell : ∀ b o v, w.cell? ⟨b, o, none⟩ = some v → w'.cell? ⟨b, o, none⟩ = some v := fun b o v h => (hbel.cell (p := ⟨b, o, none⟩) (cell_lt h)).trans h
  refine ⟨Pr', bk, I.fw hf, hb.grown hg (Nat.le_trans hbw hb.size) (by simp), fun b o hlt h => ?_, hko.grown hg (by simp), hpn, fun b o v h1 h2 => ?_, hdf, fun b o h => ?_⟩
  · rcases (hP' b o).1 h with h | h
    · exact hp b o hlt h
    · have := hb.size; omega
  · obtain ⟨h3, h4⟩ := hkc b o v h1 h2
    exact ⟨(hP' b o).2 (.inl h3), hcell b o v h4⟩
  · rcases h with h | ⟨h1, v, h2⟩
    · obtain ⟨h3, v, h4⟩ := hPi b o h
      exact ⟨(hP' b o).2 (.inl h3), v, hcell b o v h4⟩
    · exact ⟨(hP' b o).2 (.inr ⟨h1, cell_lt h2⟩), v, h2⟩
theorem GoodP.less {Pi Pi' : Prot} (h : GoodP base w0 Pr0 N pin Pi st a w) (k : ∀ b o, Pi' b o → Pi b o) : GoodP base w0 Pr0 N pin Pi' st a w := by
  obtain ⟨Pr, bk, I, h1, h2, h3, h4, h5, h6, h7⟩ := h
  exact ⟨Pr, bk, I, h1, h2, h3, h4, h5, h6, fun b o h => h7 b o (k b o h)⟩
theorem rangeFunc_ok {it : Nat → List PV → Option (Nat × List (List PV))} (hI : IterOk P it) (h1 : 2 ≤ m) {asg body : Code} {fa fb : St → Option (Xt × St)} (hA : Part P base N (m - 1 - 1) ks asg fa) (hB : Part P base N (m - 1 - 1) ks body fb)
    (G : Good base w0 Pr0 N pin st a w) (hz : pin.ds = none) (hpn : ∀ d, ks.contains d = true → pin.k d = none) {g : Operand} {f : Nat} {caps : List PV} {ps : Array Nat} {xs : List (List PV)} (hps : ∀ p ∈ ps.toList, p < N) (hg : st.pv g = some (.fn f caps)) (hit : it f caps = some (ps.size, xs))
    {x : Xt} {st' : St} (h : arounds fa fb (st.shed ks) ps.toList xs (st.shed ks) = some (x, st')) {Q : Exit → Act → World → Prop} (hQ : ∀ a' w', Good base w0 Pr0 N pin st' a' w' → Q (toExit x) a' w') :
    (Code.rangeFunc g ps asg body).wpIn Fence.wide m P Q a w := by
  obtain ⟨Pr, bk, I, hb, hp, hko, hpin, hkc, _⟩ := G
  have Is := I.shed ks
  have S := shed_shed st ks
  generalize st.shed ks = st1 at h Is S
  obtain ⟨hbody, hit2⟩ := hI f caps ps.size xs hit
  have hfn := pv_rp I hg
  obtain ⟨vs, hgv, hrc⟩ : ∃ vs : List Value, a.eval g = .func (.func f) #[] vs.toArray ∧ RpL w Pr caps vs := by
    cases hv : a.eval g <;> rw [hv] at hfn <;> cases hfn
    exact ⟨_, rfl, by assumption⟩
  obtain ⟨enc, henc, hgives⟩ := hit2 vs w Pr I.prot hrc
  have heg : ∀ args w, (callFunc f args).run P w = .ok (.enter f args) w := by
    obtain ⟨fn, c, e1, e2, e3⟩ := hbody
    intro args w
    simp [callFunc, program, Sem.run, e1, e2, show ¬ fn.name = "runtime.NumGoroutine" from by simpa using e3]
  obtain ⟨pinL, hL⟩ : ∃ pinL : Pins, pinL = ⟨fun j => if ks.contains j then none else some (bk (.bx j)), some a.defers⟩ := ⟨_, rfl⟩
  obtain ⟨pinR, hR⟩ : ∃ pinR : Pins, pinR = ⟨fun j => if ks.contains j then none else some (bk (.bx j)), some []⟩ := ⟨_, rfl⟩
  have hRn : ∀ d, ks.contains d = true → pinR.k d = none := fun d hd => by rw [hR]; show (if ks.contains d = true then none else some _) = none; rw [if_pos hd]
  have mkpin : ∀ (bk2 : Key → Nat) (dd : Option (List Deferred)), (∀ k, ks.contains k = false → bk2 (.bx k) = bk (.bx k)) → ∀ k b, (⟨fun j => if ks.contains j then none else some (bk (.bx j)), dd⟩ : Pins).k k = some b → bk2 (.bx k) = b := by
    intro bk2 dd h2 k b e
    simp only at e
    split at e
    · simp at e
    · rename_i hc
      rw [h2 k (by simpa using hc)]; exact Option.some.inj e
  have unpin : ∀ (bk2 : Key → Nat) (dd : Option (List Deferred)), (∀ k b, (⟨fun j => if ks.contains j then none else some (bk (.bx j)), dd⟩ : Pins).k k = some b → bk2 (.bx k) = b) → ∀ k, ks.contains k = false → bk2 (.bx k) = bk (.bx k) := by
    intro bk2 dd h2 k hc
    exact h2 k _ (by show (if ks.contains k = true then none else some _) = some _; rw [if_neg (by rw [hc]; simp)])
  have hM : ∀ d ∈ a.defers, Mark base w d := I.defers.1
  have hI0g : ∀ A B : World, (∃ cur, arounds fa fb st1 ps.toList (xs.drop 0) cur = some (x, st') ∧ GoodP base w Pr N pinL (Pr.here w) (st1.after cur) a A) → A.grownBy B none → ∃ cur, arounds fa fb st1 ps.toList (xs.drop 0) cur = some (x, st') ∧ GoodP base w Pr N pinL (Pr.here w) (st1.after cur) a B :=
    fun A B ⟨cur, e, G2⟩ hg2 => ⟨cur, e, (G2.grow I.hb hg2).less fun b o h => .inl h⟩
  refine wpIn_rangeFunc_pos (N := xs.length) (enc := fun i => (enc i).toArray) (by omega) hgv heg (hgives (m - 1) (by omega))
    (fun k hk => by
      obtain ⟨y, hy⟩ : ∃ y, xs[k]? = some y := ⟨_, List.getElem?_eq_getElem hk⟩
      simpa using (henc k y hy).1)
    (fun k Pi W => ∃ cur, arounds fa fb st1 ps.toList (xs.drop k) cur = some (x, st') ∧ GoodP base w Pr N pinL Pi (st1.after cur) a W)
    (fun c W => c = jumpOf x ∧ x ≠ .normal ∧ Good base w Pr N pinL st' a W)
    (fun k Pi W l o o' ⟨cur, e, G2⟩ hl ho hc _ => ⟨cur, e, G2.turn (by rw [hL]) hM I.hb hl ho hc⟩)
    (fun c W l o o' ⟨e1, e2, G2⟩ hl ho hc _ => ⟨e1, e2, G2.own (by rw [hL]) hM I.hb (grownBy_putObj' W l o') (fun r e => by cases e; exact ⟨hl, o, ho, hc⟩)⟩)
    (fun k Pi A B ⟨cur, e, G2⟩ hg2 => ⟨cur, e, G2.grow I.hb hg2⟩)
    hI0g
    (fun c A B ⟨e1, e2, G2⟩ hg2 => ⟨e1, e2, G2.own (by rw [hL]) hM I.hb hg2 (by simp)⟩)
    ⟨st1, by simpa using h, ?_⟩
    (fun k Pi a2 W => ∃ s e s2, fb s = some (e, s2) ∧ ((e = .normal ∧ arounds fa fb st1 ps.toList (xs.drop (k + 1)) s2 = some (x, st')) ∨ (e ≠ .normal ∧ x = e ∧ st' = st1.after s2)) ∧ GoodP base w Pr N pinR Pi s a2 W)
    (fun k Pi a2 W l o o' ⟨s, e, s2, h3, h4, G2⟩ hl ho hc _ => ⟨s, e, s2, h3, h4, G2.turn (by rw [hR]) (by simp) I.hb hl ho hc⟩)
    ?_ ?_ ?_ ?_
  · exact ⟨Pr, bk, after_ok Is S Is (fun b o v h1 h2 => ⟨h1, h2⟩) (fun _ _ => rfl) (KO.refl _), Below.refl _ _, fun _ _ _ h => h, KO.refl _, by rw [hL]; exact mkpin bk _ (fun _ _ => rfl), fun _ _ _ h1 h2 => ⟨h1, h2⟩, fun ds e => by rw [hL] at e; simpa using e, fun b o h => h⟩
  · -- the assignment
    rintro l k Pi W K ⟨cur, hcur, PrW, bkW, IW, hbW, hpW, hkoW, hpinW, hkcW, hdW, hPiW⟩ hk hK
    obtain ⟨y, hy⟩ : ∃ y, xs[k]? = some y := ⟨_, List.getElem?_eq_getElem hk⟩
    have hdrop : xs.drop k = y :: xs.drop (k + 1) := by
      rw [List.drop_eq_getElem_cons hk]
      congr 1
      rw [List.getElem?_eq_getElem hk] at hy
      exact Option.some.inj hy
    rw [hdrop] at hcur
    simp only [arounds, Option.bind_eq_some_iff] at hcur
    obtain ⟨⟨xa, s⟩, ha, hcur⟩ := hcur
    cases xa with
    | exit id => simp at hcur
    | ret => simp at hcur
    | normal =>
      simp only [Option.bind_eq_some_iff] at hcur
      obtain ⟨⟨e, s2⟩, hfb, hcur⟩ := hcur
      have I0 := IW.marks (ds := []) (by simp) List.nodup_nil
      obtain ⟨bk2, I2, hb2⟩ := putArgs_ok ps.toList y (enc k) _ _ bkW I0 ((henc k y hy).2 W PrW) hps
      rw [zip_vals]
      have hun := unpin bkW _ (by rw [hL] at hpinW; exact hpinW)
      refine hA l W PrW pinR _ _ W .normal s hRn ⟨PrW, bk2, I2, Below.refl _ _, fun _ _ _ h => h, KO.refl _, by rw [hR]; exact mkpin bk2 _ (fun j hj => (hb2 j).trans (hun j hj)), fun _ _ _ h1 h2 => ⟨h1, h2⟩, fun ds e => by rw [hR] at e; simpa using e⟩ ha _ fun a2 W2 G2 => ?_
      obtain ⟨Pr2, bk3, I3, hb3, hp3, hko3, hpin3, hkc3, hd3⟩ := G2
      refine hK a2 W2 (hko3.from _) (fun b o v h1 h2 => (hkc3 b o v (hPiW b o h1).1 h2).2) ⟨s, e, s2, hfb, ?_, Pr2, bk3, I3, hbW.trans hb3, fun b o hlt h => hpW b o hlt (hp3 b o hlt h), hkoW.trans hko3, hpin3, fun b o v h1 h2 => ?_, hd3, fun b o h1 => ?_⟩
      · cases e with
        | normal => exact .inl ⟨rfl, hcur⟩
        | exit id => simp only [Option.some.injEq, Prod.mk.injEq] at hcur; exact .inr ⟨by simp, hcur.1.symm, hcur.2.symm⟩
        | ret => simp only [Option.some.injEq, Prod.mk.injEq] at hcur; exact .inr ⟨by simp, hcur.1.symm, hcur.2.symm⟩
      · obtain ⟨h3, h4⟩ := hkcW b o v h1 h2
        exact hkc3 b o v h3 h4
      · obtain ⟨h3, v, h4⟩ := hPiW b o h1
        obtain ⟨h5, h6⟩ := hkc3 b o v h3 h4
        exact ⟨h5, v, h6⟩
  · -- the body
    rintro l k Pi a2 W ⟨s, e, s2, hfb, hcont, PrW, bkW, IW, hbW, hpW, hkoW, hpinW, hkcW, hdW, hPiW⟩ hk
    refine hB l W PrW pinR s a2 W e s2 hRn ⟨PrW, bkW, IW, Below.refl _ _, fun _ _ _ h => h, KO.refl _, hpinW, fun _ _ _ h1 h2 => ⟨h1, h2⟩, hdW⟩ hfb _ fun a3 W2 G2 => ?_
    obtain ⟨Pr2, bk3, I3, hb3, hp3, hko3, hpin3, hkc3, hd3⟩ := G2
    have hcar : Carry w Pr W2 Pr2 := fun b o v h1 h2 => by
      obtain ⟨h3, h4⟩ := hkcW b o v h1 h2
      exact hkc3 b o v h3 h4
    have hun := unpin bk3 _ (by rw [hR] at hpin3; exact hpin3)
    have Ia := after_ok Is S I3 hcar hun (hkoW.trans hko3)
    have Ga : GoodP base w Pr N pinL Pi (st1.after s2) a W2 := ⟨Pr2, bk3, Ia, hbW.trans hb3, fun b o hlt h => hpW b o hlt (hp3 b o hlt h), hkoW.trans hko3, by rw [hL]; exact mkpin bk3 _ hun, hcar, fun ds e => by rw [hL] at e; simpa using e, fun b o h1 => by
      obtain ⟨h3, v, h4⟩ := hPiW b o h1
      obtain ⟨h5, h6⟩ := hkc3 b o v h3 h4
      exact ⟨h5, v, h6⟩⟩
    have hkp : Keeps Pi W W2 := fun b o v h1 h2 => (hkc3 b o v (hPiW b o h1).1 h2).2
    cases e with
    | normal =>
      rcases hcont with ⟨_, hc⟩ | ⟨hne, _⟩
      · exact ⟨hko3.from _, hkp, s2, hc, Ga⟩
      · exact absurd rfl hne
    | exit id =>
      rcases hcont with ⟨hne, _⟩ | ⟨_, hx, hs⟩
      · simp at hne
      · exact ⟨hko3.from _, by rw [hx]; rfl, by rw [hx]; simp, by rw [hs]; exact Ga.good⟩
    | ret =>
      rcases hcont with ⟨hne, _⟩ | ⟨_, hx, hs⟩
      · simp at hne
      · exact ⟨hko3.from _, by rw [hx]; rfl, by rw [hx]; simp, by rw [hs]; exact Ga.good⟩
  · -- all have come
    rintro D Pi W hD ⟨cur, hcur, PrW, bkW, IW, hbW, hpW, hkoW, hpinW, hkcW, hdW, _⟩ hDk
    have he : xs.drop xs.length = [] := by simp
    rw [he] at hcur
    simp only [arounds, Option.some.injEq, Prod.mk.injEq] at hcur
    obtain ⟨rfl, rfl⟩ := hcur
    have hun := unpin bkW _ (by rw [hL] at hpinW; exact hpinW)
    refine hQ _ _ ⟨PrW, bkW, IW.marks (fun d hd => ?_) ?_, hb.trans hbW, fun b o hlt h => hp b o hlt (hpW b o hlt h), hko.trans hkoW, fun k b e => ?_, fun b o v h1 h2 => ?_, fun ds e => by rw [hz] at e; simp at e⟩
    · rcases List.mem_cons.1 hd with rfl | hd
      · exact ⟨D, rfl, hDk, Nat.le_trans I.hb hD⟩
      · exact IW.defers.1 d hd
    · refine List.nodup_cons.2 ⟨fun hd => ?_, IW.defers.2⟩
      obtain ⟨D', e1, e2, _⟩ := hM _ hd
      have e3 : D = D' := by simpa using e1
      have := (Array.getElem?_eq_some_iff.1 e2).1
      omega
    · have hc : ks.contains k = false := by
        cases hc : ks.contains k with
        | false => rfl
        | true => rw [hpn k hc] at e; simp at e
      exact (hun k hc).trans (hpin k b e)
    · obtain ⟨h3, h4⟩ := hkc b o v h1 h2
      exact hkcW b o v h3 h4
  · -- a round has left
    rintro D c W hD ⟨rfl, hx, PrW, bkW, IW, hbW, hpW, hkoW, hpinW, hkcW, hdW⟩ hDk
    have hun := unpin bkW _ (by rw [hL] at hpinW; exact hpinW)
    have G2 : Good base w0 Pr0 N pin st' { a with defers := { target := .collected D, args := #[] } :: a.defers } W := by
      refine ⟨PrW, bkW, IW.marks (fun d hd => ?_) ?_, hb.trans hbW, fun b o hlt h => hp b o hlt (hpW b o hlt h), hko.trans hkoW, fun k b e => ?_, fun b o v h1 h2 => ?_, fun ds e => by rw [hz] at e; simp at e⟩
      · rcases List.mem_cons.1 hd with rfl | hd
        · exact ⟨D, rfl, hDk, Nat.le_trans I.hb hD⟩
        · exact IW.defers.1 d hd
      · refine List.nodup_cons.2 ⟨fun hd => ?_, IW.defers.2⟩
        obtain ⟨D', e1, e2, _⟩ := hM _ hd
        have e3 : D = D' := by simpa using e1
        have := (Array.getElem?_eq_some_iff.1 e2).1
        omega
      · have hc : ks.contains k = false := by
          cases hc : ks.contains k with
          | false => rfl
          | true => rw [hpn k hc] at e; simp at e
        exact (hun k hc).trans (hpin k b e)
      · obtain ⟨h3, h4⟩ := hkc b o v h1 h2
        exact hkcW b o v h3 h4
    have hq := hQ _ _ G2
    cases x with
    | normal => exact absurd rfl hx
    | exit id => exact wpIn_exit hq
    | ret => exact wpIn_ret hq
end
end Go.Proofs.YtibbgjafjhcemaaDoor.Cul
/-! M24 -/
set_option linter.unusedVariables false
set_option linter.unusedSimpArgs false
namespace Go.Proofs.YtibbgjafjhcemaaDoor.Cul
open Go Go.RowKit
section
variable {P : Program} {base : Nat} {w w0 : World} {Pr Pr0 : Prot} {bk : Key → Nat} {st st' : St} {a : Act} {N : Nat} {ops : Array Oper} {call : Cl} {pin : Pins} {it : Nat → List PV → Option (Nat × List (List PV))}
theorem Good.val (G : Good base w0 Pr0 N pin st a w) {x : Operand} {v : Value} (h : st.val x = some v) : a.eval x = v := by
  obtain ⟨Pr, bk, I, _⟩ := G
  exact val_eq I h
theorem rounds_ok {F : Fence} {m : Nat} {c : Code} {f : St → Option (Xt × St)} {x : Xt} {Q : Exit → Act → World → Prop}
    (hf : ∀ st a w y s, Good base w0 Pr0 N pin st a w → f st = some (y, s) → ∀ Q : Exit → Act → World → Prop, (∀ a' w', Good base w0 Pr0 N pin s a' w' → Q (toExit y) a' w') → c.wpIn F m P Q a w)
    (hQ : ∀ a' w', Good base w0 Pr0 N pin st' a' w' → Q (toExit x) a' w') :
    ∀ (k : Nat) (st : St) (a : Act) (w : World), Good base w0 Pr0 N pin st a w → loopN f k st = some (x, st') → Code.roundsIn F m P c Q k a w
  | 0, st, a, w, G, h => by simp [loopN] at h
  | k + 1, st, a, w, G, h => by
    simp only [loopN, Option.bind_eq_some_iff] at h
    obtain ⟨⟨y, s⟩, h1, h2⟩ := h
    rw [roundsIn_succ]
    refine hf st a w y s G h1 _ fun a' w' G' => ?_
    cases y with
    | normal => exact rounds_ok hf hQ k s a' w' G' h2
    | exit id => simp only [Option.some.injEq, Prod.mk.injEq] at h2; obtain ⟨rfl, rfl⟩ := h2; exact hQ a' w' G'
    | ret => simp only [Option.some.injEq, Prod.mk.injEq] at h2; obtain ⟨rfl, rfl⟩ := h2; exact hQ a' w' G'
theorem arun_ok (hC : CallOk P call) (hI : IterOk P it) (hm : P.follows .mixedOrders = true) (note : Nat → Note) (k : Nat) : ∀ (c : Code), okCode N c = true → ∀ (F : Fence) (E : Easy F) (m : Nat) (w0 : World) (Pr0 : Prot) (pin : Pins), (flat c = true ∨ (F = Fence.wide ∧ pin.ds = none ∧ 2 ≤ m)) → (∀ d ∈ dstsOf c, pin.k d = none) → ∀ (st : St) (a : Act) (w : World) (x : Xt) (st' : St), Good base w0 Pr0 N pin st a w →
    arun P call it (fun g => loopN g k) note c st = some (x, st') → ∀ Q : Exit → Act → World → Prop, (∀ a' w', Good base w0 Pr0 N pin st' a' w' → Q (toExit x) a' w') → c.wpIn F m P Q a w
  | .skip, _, F, E, m, w0, Pr0, pin, _, _, st, a, w, x, st', G, h, Q, hQ => by
    simp only [arun, Option.some.injEq, Prod.mk.injEq] at h
    obtain ⟨rfl, rfl⟩ := h
    exact wpIn_skip (hQ a w G)
  | .region id ops dr, hok, F, E, m, w0, Pr0, pin, _, hpn, st, a, w, x, st', G, h, Q, hQ => by
    simp only [arun, Option.map_eq_some_iff, Prod.mk.injEq] at h
    obtain ⟨s, hs, rfl, rfl⟩ := h
    exact region_ok E m hC hm hok (fun o ho d hd => hpn d (List.mem_filterMap.2 ⟨o, ho, hd⟩)) (Good.stills _ G) hs fun a' w' G' => hQ a' w' (G'.keepOnly _)
  | .seq p q, hok, F, E, m, w0, Pr0, pin, hF, hpn, st, a, w, x, st', G, h, Q, hQ => by
    simp only [okCode, Bool.and_eq_true] at hok
    simp only [flat, Bool.and_eq_true] at hF
    simp only [arun, Option.bind_eq_some_iff] at h
    obtain ⟨⟨y, s⟩, h1, h2⟩ := h
    refine wpIn_seq (arun_ok hC hI hm note k p hok.1 F E m w0 Pr0 pin (hF.imp And.left id) (fun d hd => hpn d (List.mem_append_left _ hd)) st a w y s G h1 _ fun a' w' G' => ?_)
    cases y with
    | normal => exact arun_ok hC hI hm note k q hok.2 F E m w0 Pr0 pin (hF.imp And.right id) (fun d hd => hpn d (List.mem_append_right _ hd)) s a' w' x st' G' h2 Q hQ
    | exit id => simp only [Option.some.injEq, Prod.mk.injEq] at h2; obtain ⟨rfl, rfl⟩ := h2; exact hQ a' w' G'
    | ret => simp only [Option.some.injEq, Prod.mk.injEq] at h2; obtain ⟨rfl, rfl⟩ := h2; exact hQ a' w' G'
  | .cond c t e, hok, F, E, m, w0, Pr0, pin, hF, hpn, st, a, w, x, st', G, h, Q, hQ => by
    simp only [okCode, Bool.and_eq_true] at hok
    simp only [flat, Bool.and_eq_true] at hF
    simp only [arun, Option.bind_eq_some_iff] at h
    obtain ⟨v, hv, h⟩ := h
    have hev := G.val hv
    split at h
    · exact wpIn_cond_true hev (arun_ok hC hI hm note k t hok.1 F E m w0 Pr0 pin (hF.imp And.left id) (fun d hd => hpn d (List.mem_append_left _ hd)) st a w x st' G h Q hQ)
    · exact wpIn_cond_false hev (arun_ok hC hI hm note k e hok.2 F E m w0 Pr0 pin (hF.imp And.right id) (fun d hd => hpn d (List.mem_append_right _ hd)) st a w x st' G h Q hQ)
    · simp at h
  | .block id c, hok, F, E, m, w0, Pr0, pin, hF, hpn, st, a, w, x, st', G, h, Q, hQ => by
    simp only [okCode] at hok
    simp only [flat] at hF
    simp only [arun, Option.map_eq_some_iff] at h
    obtain ⟨⟨y, s⟩, h1, h2⟩ := h
    refine wpIn_block (arun_ok hC hI hm note k c hok F E m w0 Pr0 pin hF hpn st a w y s G h1 _ fun a' w' G' => ?_)
    cases y with
    | normal => simp only [Prod.mk.injEq] at h2; obtain ⟨rfl, rfl⟩ := h2; exact hQ a' w' G'
    | exit j =>
      simp only [toExit, Exit.inBlock]
      simp only at h2
      split at h2
      · rename_i hj; rw [if_pos hj]; simp only [Prod.mk.injEq] at h2; obtain ⟨rfl, rfl⟩ := h2; exact hQ a' w' G'
      · rename_i hj; rw [if_neg hj]; simp only [Prod.mk.injEq] at h2; obtain ⟨rfl, rfl⟩ := h2; exact hQ a' w' G'
    | ret => simp only [Prod.mk.injEq] at h2; obtain ⟨rfl, rfl⟩ := h2; exact hQ a' w' G'
  | .loop c, hok, F, E, m, w0, Pr0, pin, hF, hpn, st, a, w, x, st', G, h, Q, hQ => by
    simp only [okCode] at hok
    simp only [flat] at hF
    simp only [arun] at h
    exact wpIn_loop_rounds k (rounds_ok (f := arun P call it (fun g => loopN g k) note c) (fun st a w y s G h Q hQ => arun_ok hC hI hm note k c hok F E m w0 Pr0 pin hF hpn st a w y s G h Q hQ) hQ k st a w G h)
  | .rangeFunc g ps asg body, hok, F, E, m, w0, Pr0, pin, hF, hpn, st, a, w, x, st', G, h, Q, hQ => by
    simp only [okCode, Bool.and_eq_true] at hok
    obtain ⟨⟨⟨⟨hfa, hfb⟩, hoa⟩, hob⟩, hps⟩ := hok
    rcases hF with hF | ⟨rfl, hz, h1⟩
    · simp [flat] at hF
    · simp only [arun, Option.bind_eq_some_iff] at h
      obtain ⟨p, hp, h⟩ := h
      split at h
      · rename_i f caps
        simp only [Option.bind_eq_some_iff] at h
        obtain ⟨⟨n, xs⟩, hit, h⟩ := h
        split at h
        · rename_i hn
          simp only at hn; subst hn
          have hA : Part P base N (m - 1 - 1) (ps.toList ++ (dstsOf asg ++ dstsOf body)) asg (arun P call it (fun g => loopN g k) note asg) := fun l w0 Pr0 pin st a w x s hk G h Q hQ =>
            arun_ok hC hI hm note k asg hoa _ (easy_round l) (m - 1 - 1) w0 Pr0 pin (.inl hfa) (fun d hd => hk d (by rw [List.contains_eq_mem]; simp [hd])) st a w x s G h Q hQ
          have hB : Part P base N (m - 1 - 1) (ps.toList ++ (dstsOf asg ++ dstsOf body)) body (arun P call it (fun g => loopN g k) note body) := fun l w0 Pr0 pin st a w x s hk G h Q hQ =>
            arun_ok hC hI hm note k body hob _ (easy_round l) (m - 1 - 1) w0 Pr0 pin (.inl hfb) (fun d hd => hk d (by rw [List.contains_eq_mem]; simp [hd])) st a w x s G h Q hQ
          exact rangeFunc_ok hI h1 hA hB G hz (fun d hd => hpn d (by rw [List.contains_eq_mem] at hd; simpa [dstsOf] using hd)) (fun p hp => by simpa using List.all_eq_true.1 hps p hp) hp hit h hQ
        · simp at h
      · simp at h
  | .exit id, _, F, E, m, w0, Pr0, pin, _, _, st, a, w, x, st', G, h, Q, hQ => by
    simp only [arun, Option.some.injEq, Prod.mk.injEq] at h
    obtain ⟨rfl, rfl⟩ := h
    exact wpIn_exit (hQ a w G)
  | .ret, _, F, E, m, w0, Pr0, pin, _, _, st, a, w, x, st', G, h, Q, hQ => by
    simp only [arun, Option.some.injEq, Prod.mk.injEq] at h
    obtain ⟨rfl, rfl⟩ := h
    exact wpIn_ret (hQ a w G)
  | .label _, hok, _, _, _, _, _, _, _, _, _, _, _, _, _, _, _, _, _ => by simp [okCode] at hok
  | .goto _, hok, _, _, _, _, _, _, _, _, _, _, _, _, _, _, _, _, _ => by simp [okCode] at hok
end
end Go.Proofs.YtibbgjafjhcemaaDoor.Cul
/-! M25 -/
set_option linter.unusedVariables false
set_option linter.unusedSimpArgs false
namespace Go.Proofs.YtibbgjafjhcemaaDoor.Cul
open Go Go.RowKit
theorem okOps_mono {N M : Nat} (h : N ≤ M) {ops : Array Oper} {dr : Bool} (hok : okOps N ops dr = true) : okOps M ops dr = true := by
  simp only [okOps, Bool.and_eq_true] at hok ⊢
  refine ⟨List.all_eq_true.2 fun o ho => ?_, hok.2⟩
  have := List.all_eq_true.1 hok.1 o ho
  cases hd : o.dst with
  | none => rfl
  | some d => rw [hd] at this; simp only [decide_eq_true_eq] at this ⊢; exact Nat.lt_of_lt_of_le this h
theorem okCode_mono {N M : Nat} (h : N ≤ M) : ∀ {c : Code}, okCode N c = true → okCode M c = true
  | .skip, _ => rfl
  | .region .., hok => okOps_mono h hok
  | .seq .., hok => by simp only [okCode, Bool.and_eq_true] at hok ⊢; exact ⟨okCode_mono h hok.1, okCode_mono h hok.2⟩
  | .cond .., hok => by simp only [okCode, Bool.and_eq_true] at hok ⊢; exact ⟨okCode_mono h hok.1, okCode_mono h hok.2⟩
  | .block _ _, hok => by simp only [okCode] at hok ⊢; exact okCode_mono h hok
  | .loop _, hok => by simp only [okCode] at hok ⊢; exact okCode_mono h hok
  | .rangeFunc _ ps a b, hok => by
    simp only [okCode, Bool.and_eq_true] at hok ⊢
    obtain ⟨⟨⟨⟨hfa, hfb⟩, hoa⟩, hob⟩, hps⟩ := hok
    refine ⟨⟨⟨⟨hfa, hfb⟩, okCode_mono h hoa⟩, okCode_mono h hob⟩, List.all_eq_true.2 fun p hp => ?_⟩
    have := List.all_eq_true.1 hps p hp
    simp only [decide_eq_true_eq] at this ⊢
    exact Nat.lt_of_lt_of_le this h
  | .exit _, _ => rfl
  | .ret, _ => rfl
theorem look_slots : ∀ (l : List PV) (i t : Nat) (av : AV), look (slotsOf i l) t = some av → ∃ j p, t = i + j ∧ l[j]? = some p ∧ av = .pv p
  | [], i, t, av, h => by simp [slotsOf, look] at h
  | p :: l, i, t, av, h => by
    simp only [slotsOf, look] at h
    split at h
    · rename_i e; exact ⟨0, p, by omega, rfl, (Option.some.inj h).symm⟩
    · obtain ⟨j, q, h1, h2, h3⟩ := look_slots l (i + 1) t av h
      exact ⟨j + 1, q, by omega, by simpa using h2, h3⟩
section
variable {P : Program} {base : Nat} {w w0 : World} {Pr Pr0 : Prot} {bk : Key → Nat} {pin : Pins} {st st' : St} {a : Act} {N : Nat} {call : Cl}
theorem entry_inv {args : List PV} {vs : List Value} (hp : ∀ b o, Pr b o → b < w.heap.size) (hr : RpL w Pr args vs) (k : Nat) :
    Inv w.heap.size w Pr (fun _ => 0) (St.enter args) { tmps := vs.toArray ++ Array.replicate k undef, defers := [] } (vs.length + k) := by
  have hnl : ∀ x, ¬ live (St.enter args) x := by
    intro x hx
    cases x with
    | bx k => obtain ⟨cs, h⟩ := hx; simp [St.enter, look] at h
    | sx t =>
      rcases hx with ⟨sz, n, cs, h⟩ | ⟨z, h⟩
      · obtain ⟨j, p, _, _, e⟩ := look_slots args 0 t _ h; simp at e
      · simp [St.enter, lookP] at h
    | cx k o => obtain ⟨z, h⟩ := hx; simp [St.enter, lookP] at h
  constructor
  · simp
  · exact ⟨by simp, List.nodup_nil⟩
  · exact Nat.le_refl _
  · exact hp
  · intro t av ht
    obtain ⟨j, p, h1, h2, rfl⟩ := look_slots args 0 t av ht
    obtain ⟨v, h3, h4⟩ := hr.get j p h2
    refine ⟨v, ?_, h4⟩
    have hj : j < vs.length := (List.getElem?_eq_some_iff.1 h3).1
    have : t = j := by omega
    subst this
    rw [Array.getElem?_append_left (by simpa using hj)]
    simpa using h3
  · exact fun x hx => absurd hx (hnl x)
  · exact fun x _ hx => absurd hx (hnl x)
  · intro k cs h; simp [St.enter, look] at h
  · intro t z h; simp [St.enter, lookP] at h
  · intro k i z h; simp [St.enter, lookP] at h
  · intro t q h; simp [St.enter, look] at h
theorem fix_ok (I : Inv base w Pr bk st a N) (r : ResultVar) : ∃ Pr' bk', Inv base w Pr' bk' (st.fix r) a N ∧ Kp w Pr w Pr' ∧ ∀ b o, b < base → Pr' b o → Pr b o := by
  cases r with
  | cell t ty => exact ⟨Pr, bk, I, Kp.refl _ _, fun _ _ _ h => h⟩
  | tmp t => obtain ⟨Pr', bk', h1, h2, h3, _⟩ := I.stillG true t; exact ⟨Pr', bk', h1, h2, h3⟩
/-- What a result's reading is. -/
def resRun (tmps : Array Value) : ResultVar → Sem Value
  | .tmp t => pure (tmps.getD t undef)
  | .cell g t => do loadVar t (← asAddr (tmps.getD g undef))
theorem getD_some {tmps : Array Value} {t : Nat} {v : Value} (h : tmps[t]? = some v) : tmps.getD t undef = v := by simp [h]
theorem aresult_ok (I : Inv base w Pr bk st a N) {r : ResultVar} {rv : RV} (h : aresult P st r = some rv) : ∃ v, (resRun a.tmps r).run P w = .ok v w ∧ Rp w Pr rv.v v ∧
    ∀ z, rv.gr = some z → ∃ b o n cap cs, rv.v = .sl z n cs ∧ v = .slice (some ⟨b, o, none⟩) n cap ∧ Room w Pr b o n cap z ∧ o = 0 ∧ base ≤ b ∧ b < w.heap.size := by
  cases r with
  | tmp t =>
    simp only [aresult] at h
    split at h
    · rename_i p hl
      simp only [Option.some.injEq] at h; subst h
      obtain ⟨v, hv, hr⟩ := I.slots t _ hl
      refine ⟨v, by simp [resRun, hv], hr, fun z hz => ?_⟩
      obtain ⟨o, n, cap, cs, h1, h2, h3, h0⟩ := I.grs t z hz
      have hown := I.own (.sx t) (.inr ⟨z, hz⟩)
      rw [hl] at h1
      rw [hv] at h2
      exact ⟨_, o, n, cap, cs, by simpa using h1, by simpa using h2, h3, h0, hown.1, hown.2⟩
    · simp at h
  | cell t ty =>
    simp only [aresult] at h
    split at h
    · rename_i k o hl
      simp only [Option.bind_eq_some_iff, Option.map_eq_some_iff] at h
      obtain ⟨cs, hb, p, hp, rfl⟩ := h
      obtain ⟨v0, hv0, hr0⟩ := I.slots t _ hl
      simp only [RpA] at hr0
      obtain ⟨⟨T, c, vs, h1, h0, h2, h3⟩, h4⟩ := I.boxes k cs hb
      have hrange : w.rangeAt (bk (.bx k)) 0 vs := range_pre h1 h0
      obtain ⟨v, hv, hrp, hrow⟩ := takeT_load (w := w) (Pr := Pr) hp h2 h3 hrange
      refine ⟨v, ?_, hrp, fun z hz => ?_⟩
      · simp only [resRun, getD_some hv0, hr0, asAddr, Sem.run_bind, Sem.run_pure, Result.andThen_ok]
        rw [Nat.zero_add] at hv; exact hv
      · simp only at hz
        split at hz
        · simp at hz
        · rename_i hnr
          obtain ⟨hvo, hco⟩ := hrow (by simpa using hnr)
          obtain ⟨o', n, cap, cs', bcs, e1, e2, e3, e4, e9⟩ := I.grc k o z hz
          have hown := I.own (.cx k o) ⟨z, hz⟩
          rw [hb] at e1; cases e1
          rw [hco] at e2
          have e5 : w.cell? ⟨bk (.bx k), o, none⟩ = some v := by have := hrange o v hvo; rwa [Nat.zero_add] at this
          rw [e5] at e3
          exact ⟨_, o', n, cap, cs', by simpa using e2, by simpa using e3, e4, e9, hown.1, hown.2⟩
    · simp at h
theorem caps_ok (I : Inv base w Pr bk st a N) {Pr' : Prot} (hk : Kp w Pr w Pr') : ∀ (caps : List Cap) (vs : List Value) (ps : List PV), vs.length = caps.length → (∀ (i : Nat) (c : Cap) (u : Value), caps[i]? = some c → vs[i]? = some u → CapRp w Pr bk c u) →
    (∀ k off, Cap.bp k off ∈ caps → ∀ o, Pr' (bk (.bx k)) o) → capsOf st caps = some ps → RpL w Pr' ps vs
  | [], [], ps, _, _, _, h => by simp only [capsOf, Option.some.injEq] at h; subst h; exact .nil
  | [], v :: vs, ps, hl, _, _, _ => by simp at hl
  | c :: caps, [], ps, hl, _, _, _ => by simp at hl
  | .pv p :: caps, v :: vs, ps, hl, hc, hp, h => by
    simp only [capsOf, Option.map_eq_some_iff] at h
    obtain ⟨qs, hq, rfl⟩ := h
    exact .cons (Rp.mono hk (hc 0 _ v rfl rfl)) (caps_ok I hk caps vs qs (by simpa using hl) (fun i c u h1 h2 => hc (i + 1) c u (by simpa using h1) (by simpa using h2)) (fun k off hm => hp k off (List.mem_cons_of_mem _ hm)) hq)
  | .bp k off :: caps, v :: vs, ps, hl, hc, hp, h => by
    simp only [capsOf, Option.bind_eq_some_iff, Option.map_eq_some_iff] at h
    obtain ⟨cs, hb, qs, hq, rfl⟩ := h
    refine .cons ?_ (caps_ok I hk caps vs qs (by simpa using hl) (fun i c u h1 h2 => hc (i + 1) c u (by simpa using h1) (by simpa using h2)) (fun k off hm => hp k off (List.mem_cons_of_mem _ hm)) hq)
    have hv : v = .pointer (some ⟨bk (.bx k), off, none⟩) := hc 0 _ v rfl rfl
    obtain ⟨⟨T, c, us, h1, h0, h2, h3⟩, _⟩ := I.boxes k cs hb
    have hrange : w.rangeAt (bk (.bx k)) 0 us := range_pre h1 h0
    have hr2 := rangeAt_drop hrange off
    rw [Nat.zero_add] at hr2
    rw [hv]
    exact .el ((RpL.mono hk h2).drop off) (fun u hu => h3 u (List.mem_of_mem_drop hu)) hr2 (fun i hi => hp k off (by simp) _)
theorem aresult1_ok (I : Inv base w Pr bk st a N) {r : ResultVar} {rv : RV} (h : aresult1 P st r = some rv) : ∃ v Pr', (resRun a.tmps r).run P w = .ok v w ∧ Rp w Pr' rv.v v ∧ (∀ b o, b < base → Pr' b o → Pr b o) ∧ (∀ b o, Pr' b o → b < w.heap.size) ∧
    ∀ z, rv.gr = some z → ∃ b o n cap cs, rv.v = .sl z n cs ∧ v = .slice (some ⟨b, o, none⟩) n cap ∧ Room w Pr' b o n cap z ∧ o = 0 ∧ base ≤ b ∧ b < w.heap.size := by
  have old : aresult P st r = some rv → ∃ v Pr', (resRun a.tmps r).run P w = .ok v w ∧ Rp w Pr' rv.v v ∧ (∀ b o, b < base → Pr' b o → Pr b o) ∧ (∀ b o, Pr' b o → b < w.heap.size) ∧
      ∀ z, rv.gr = some z → ∃ b o n cap cs, rv.v = .sl z n cs ∧ v = .slice (some ⟨b, o, none⟩) n cap ∧ Room w Pr' b o n cap z ∧ o = 0 ∧ base ≤ b ∧ b < w.heap.size := fun h => by
    obtain ⟨v, h1, h2, h3⟩ := aresult_ok I h
    exact ⟨v, Pr, h1, h2, fun _ _ _ h => h, I.prot, h3⟩
  cases r with
  | cell g t => exact old h
  | tmp t =>
    simp only [aresult1] at h
    split at h
    · rename_i f caps hl
      simp only [Option.map_eq_some_iff] at h
      obtain ⟨ps, hps, rfl⟩ := h
      obtain ⟨v, hv, vs, rfl, hlen, hcap⟩ := I.slots t _ hl
      obtain ⟨Pr', hP'⟩ : ∃ Pr' : Prot, ∀ b o, Pr' b o ↔ (Pr b o ∨ ∃ k off cs, Cap.bp k off ∈ caps ∧ look st.bx k = some cs ∧ b = bk (.bx k)) := ⟨fun b o => _, fun _ _ => Iff.rfl⟩
      have hbx : ∀ k off, Cap.bp k off ∈ caps → ∃ cs, look st.bx k = some cs := by
        clear hcap hlen hl hP' hv old
        intro k off hm
        induction caps generalizing ps with
        | nil => simp at hm
        | cons c caps ih =>
          cases c with
          | pv p =>
            simp only [capsOf, Option.map_eq_some_iff] at hps
            obtain ⟨qs, hq, _⟩ := hps
            exact ih qs hq (by simpa using hm)
          | bp k2 o2 =>
            simp only [capsOf, Option.bind_eq_some_iff, Option.map_eq_some_iff] at hps
            obtain ⟨cs, hb, qs, hq, _⟩ := hps
            rcases List.mem_cons.1 hm with e | hm
            · cases e; exact ⟨cs, hb⟩
            · exact ih qs hq hm
      refine ⟨_, Pr', by simp [resRun, hv], .fn (caps_ok I ⟨fun b o h => (hP' b o).2 (.inl h), fun _ _ _ => rfl⟩ caps vs ps hlen hcap (fun k off hm o => ?_) hps), fun b o hlt h => ?_, fun b o h => ?_, fun z hz => by simp at hz⟩
      · obtain ⟨cs, hb⟩ := hbx k off hm
        exact (hP' _ _).2 (.inr ⟨k, off, cs, hm, hb, rfl⟩)
      · rcases (hP' b o).1 h with h | ⟨k, off, cs, _, hb, rfl⟩
        · exact h
        · have := (I.own (.bx k) ⟨cs, hb⟩).1; omega
      · rcases (hP' b o).1 h with h | ⟨k, off, cs, _, hb, rfl⟩
        · exact I.prot b o h
        · exact (I.own (.bx k) ⟨cs, hb⟩).2
    · exact old h
theorem aresultsL_ok : ∀ (l : List ResultVar) {st : St} {Pr : Prot} {bk : Key → Nat} {ps : List PV}, Inv base w Pr bk st a N → aresultsL P st l = some ps →
    ∃ vs Pr', (l.mapM (resRun a.tmps)).run P w = .ok vs w ∧ RpL w Pr' ps vs ∧ Kp w Pr w Pr' ∧ (∀ b o, b < base → Pr' b o → Pr b o) ∧ ∀ b o, Pr' b o → b < w.heap.size
  | [], st, Pr, bk, ps, I, h => by
    simp only [aresultsL, Option.some.injEq] at h; subst h
    exact ⟨[], Pr, by simp, .nil, Kp.refl _ _, fun _ _ _ h => h, I.prot⟩
  | r :: l, st, Pr, bk, ps, I, h => by
    simp only [aresultsL, Option.bind_eq_some_iff, Option.map_eq_some_iff] at h
    obtain ⟨rv, hrv, qs, hqs, rfl⟩ := h
    obtain ⟨Pr1, bk1, I1, hk1, hb1⟩ := fix_ok I r
    obtain ⟨v, hv, hrp, _⟩ := aresult_ok I1 hrv
    obtain ⟨vs, Pr2, h1, h2, h3, h4, h5⟩ := aresultsL_ok l I1 hqs
    exact ⟨v :: vs, Pr2, by simp [List.mapM_cons, hv, h1], .cons (Rp.mono h3 hrp) h2, hk1.trans h3, fun b o hb h => hb1 b o hb (h4 b o hb h), h5⟩
theorem results_eq (fn : Func) (tmps : Array Value) : results fn tmps = (do let vs ← fn.results.mapM (resRun tmps); pure (if h : vs.size = 1 then vs[0] else .tuple vs)) := rfl
theorem results_run {fn : Func} {tmps : Array Value} {vs : List Value} (h : (fn.results.toList.mapM (resRun tmps)).run P w = .ok vs w) : (results fn tmps).run P w = .ok (if h : vs.length = 1 then vs[0] else .tuple vs.toArray) w := by
  rw [results_eq]
  have : fn.results = fn.results.toList.toArray := by simp
  rw [this, List.mapM_toArray]
  simp only [Sem.run_bind, Sem.run_map, h]
  simp
theorem aresultsL_length : ∀ (l : List ResultVar) {st : St} {ps : List PV}, aresultsL P st l = some ps → l.length = ps.length
  | [], st, ps, h => by simp only [aresultsL, Option.some.injEq] at h; subst h; rfl
  | r :: l, st, ps, h => by
    simp only [aresultsL, Option.bind_eq_some_iff, Option.map_eq_some_iff] at h
    obtain ⟨rv, _, qs, hqs, rfl⟩ := h
    simp [aresultsL_length l hqs]
theorem aresults_ok {fn : Func} {rv : RV} (hp0 : ∀ b o, Pr0 b o → b < w0.heap.size) (G : Good w0.heap.size w0 Pr0 N pin st a w) (h : aresults P st fn.results.toList = some rv) : ∃ v Pr', (results fn a.tmps).run P w = .ok v w ∧ RetOk w0 Pr0 w Pr' rv v := by
  obtain ⟨Pr, bk, I, hb, hp, hko, _⟩ := G
  -- what was protected at the start is so at the end
  have join : ∀ Pr', Kp w Pr' w (fun b o => Pr' b o ∨ Pr0 b o) := fun Pr' => ⟨fun _ _ h => .inl h, fun _ _ _ => rfl⟩
  have fw : ∀ Pr' : Prot, (∀ b o, b < w0.heap.size → Pr' b o → Pr b o) → (∀ b o, Pr' b o → b < w.heap.size) → Fw w0 Pr0 w (fun b o => Pr' b o ∨ Pr0 b o) := fun Pr' h2 h3 =>
    ⟨hb, fun b o h => .inr h, fun b o hlt h => h.elim (fun h => hp b o hlt (h2 b o hlt h)) id, fun b o h => h.elim (h3 b o) (fun h => Nat.lt_of_lt_of_le (hp0 b o h) hb.size)⟩
  unfold aresults at h
  split at h
  · rename_i r hl
    obtain ⟨Pr1, bk1, I1, hk1, hb1⟩ := fix_ok I r
    obtain ⟨v, Pr2, hv, hrp, hb2, hn2, hgr⟩ := aresult1_ok I1 h
    refine ⟨v, _, ?_, ⟨fw Pr2 (fun b o hlt h => hb1 b o hlt (hb2 b o hlt h)) hn2, Rp.mono (join Pr2) hrp, fun z hz => ?_⟩⟩
    · have := results_run (P := P) (w := w) (fn := fn) (tmps := a.tmps) (vs := [v]) (by rw [hl]; simp [List.mapM_cons, hv])
      simpa using this
    · obtain ⟨b, o, n, cap, cs, h1, h2, h3, h0, h4, h5⟩ := hgr z hz
      exact ⟨b, o, n, cap, cs, h1, h2, ⟨h3.hz, h3.le, h3.there, fun o' ho => ho.elim (h3.pr o') (fun h => absurd (hp0 b o' h) (by omega))⟩, h0, h4, h5⟩
  · rename_i hl
    simp only [Option.map_eq_some_iff] at h
    obtain ⟨ps, hps, rfl⟩ := h
    obtain ⟨vs, Pr1, h1, h2, h3, h4, h5⟩ := aresultsL_ok _ I hps
    have hlen : vs.length ≠ 1 := by
      intro e
      have h6 := aresultsL_length _ hps
      rw [h2.length, e] at h6
      obtain ⟨r, hr⟩ := List.length_eq_one_iff.1 h6
      exact hl r hr
    refine ⟨.tuple vs.toArray, _, ?_, ⟨fw Pr1 h4 h5, .tup (RpL.mono (join Pr1) h2), fun z hz => by simp at hz⟩⟩
    have := results_run (P := P) (w := w) h1
    rw [this, dif_neg hlen]
end
/-- One function's run: what it answers, out of what its callees answer. -/
theorem abody_is {P : Program} {S : Cl} {it : Nat → List PV → Option (Nat × List (List PV))} (hC : CallOk P S) (hI : IterOk P it) (hm : P.follows .mixedOrders = true) {f : Nat} {fn : Func} (hf : P.funcs[f]? = some fn) (hok : okFn fn = true) {note : Nat → Note} {k : Nat} {args : List PV} {r : RV}
    (h : abody P S it (fun g => loopN g k) note fn args = some r) : CallIs P f args r := by
  simp only [Option.bind_eq_some_iff, abody] at h
  obtain ⟨c, hc, ⟨x, st'⟩, hrun, hres⟩ := h
  simp only [okFn, hc, Bool.and_eq_true, Bool.not_eq_true'] at hok
  refine ⟨⟨fn, c, hf, hc, hok.2⟩, fun vs w Pr hp hr => callsIn_wide.1 (callsIn_of_wp_marks (F := Fence.wide) (n := 2) hf hc trivial ?_ rfl)⟩
  have I0 := entry_inv hp hr (fn.ntmps - vs.toArray.size)
  refine arun_ok (base := w.heap.size) (N := vs.length + (fn.ntmps - vs.toArray.size)) hC hI hm note k c (okCode_mono (by simp; omega) hok.1) Fence.wide easy_wide 2 w Pr ⟨fun _ => none, none⟩ (.inr ⟨rfl, rfl, by omega⟩) (fun _ _ => rfl) (St.enter args) _ w x st' ⟨Pr, _, I0, Below.refl _ _, fun _ _ _ h => h, KO.refl _, fun k b e => by simp at e, fun _ _ _ h1 h2 => ⟨h1, h2⟩, fun _ e => by simp at e⟩ hrun _ fun a' w' G => ?_
  have fin : ∀ (hx : aresults P st' fn.results.toList = some r), LeavesInM Fence.wide 2 P fn a'.tmps (fun e w' => ∃ v Pr', e = .returned v ∧ RetOk w Pr w' Pr' r v) a'.defers .returning w' := fun hx =>
    leaves_ok (st := st') rfl rfl (fun tmps w2 G2 => by
      obtain ⟨v, Pr', h1, h2⟩ := aresults_ok hp G2 hx
      exact ⟨v, h1, v, Pr', rfl, h2⟩) a'.defers a'.tmps w' G
  cases x with
  | normal => exact fin hres
  | ret => exact fin hres
  | exit id => simp at hres
/-! ### A callee that writes into an array of the caller's -/
section
variable {P : Program} {base : Nat} {w w0 : World} {Pr Pr0 : Prot} {bk : Key → Nat} {pin : Pins} {st st' : St} {a : Act} {N : Nat}
theorem look_slotsM {b size : Nat} {gcs : List PV} {gsz : Nat} : ∀ {ms : List MA} {vs : List Value}, MaRp w Pr b size gcs gsz ms vs → ∀ (i t : Nat) (av : AV), look (slotsM i ms) t = some av →
    ∃ j v, t = i + j ∧ vs[j]? = some v ∧ ((∃ p, av = .pv p ∧ Rp w Pr p v) ∨ (∃ off n, av = .bs gk off gsz n ∧ GSl b size gcs off gsz n v))
  | _, _, .nil, i, t, av, h => by simp [slotsM, look] at h
  | _, _, .p (p := p) (v := v) hr hs, i, t, av, h => by
    simp only [slotsM, look] at h
    split at h
    · rename_i e; simp only [Option.some.injEq] at h; exact ⟨0, v, by omega, rfl, .inl ⟨p, h.symm, hr⟩⟩
    · obtain ⟨j, u, h1, h2, h3⟩ := look_slotsM hs (i + 1) t av h
      exact ⟨j + 1, u, by omega, by simpa using h2, h3⟩
  | _, _, .g (off := off) (n := n) (v := v) hr hs, i, t, av, h => by
    simp only [slotsM, look] at h
    split at h
    · rename_i e; simp only [Option.some.injEq] at h; exact ⟨0, v, by omega, rfl, .inr ⟨off, n, h.symm, hr⟩⟩
    · obtain ⟨j, u, h1, h2, h3⟩ := look_slotsM hs (i + 1) t av h
      exact ⟨j + 1, u, by omega, by simpa using h2, h3⟩
/-- All that the callee may not touch. -/
def guarded (w : World) (b : Nat) : Prot := fun b' _ => b' ≠ b ∧ b' < w.heap.size
theorem entry_invM {b : Nat} {T : TypeId} {c : Array Value} {cs : List PV} {sz : Nat} {ms : List MA} {vs : List Value} (hgc : guestCells ms = some cs) (hp : ∀ b o, Pr b o → b < w.heap.size) (hG : Guest w Pr b T c cs) (hma : MaRp w Pr b c.size cs sz ms vs) (k : Nat) :
    Inv 0 w (guarded w b) (fun _ => b) (St.enterM ms) { tmps := vs.toArray ++ Array.replicate k undef, defers := [] } (vs.length + k) := by
  have hblt : b < w.heap.size := (Array.getElem?_eq_some_iff.1 hG.blk).1
  have hkp : Kp w Pr w (guarded w b) := ⟨fun b' o h => ⟨fun e => hG.free o (e ▸ h), hp b' o h⟩, fun _ _ _ => rfl⟩
  have hbx : ∀ j cs2, look (St.enterM ms).bx j = some cs2 → j = gk ∧ cs2 = cs := by
    intro j cs2 h
    simp only [St.enterM, hgc, look] at h
    split at h
    · rename_i e; simp only [Option.some.injEq] at h; exact ⟨e.symm, h.symm⟩
    · simp at h
  have hbg : look (St.enterM ms).bx gk = some cs := by simp [St.enterM, hgc, look]
  have hlv : ∀ x, live (St.enterM ms) x → x = .bx gk := by
    intro x hx
    cases x with
    | bx j => obtain ⟨cs2, h⟩ := hx; rw [(hbx j cs2 h).1]
    | sx t =>
      rcases hx with ⟨sz', n, cs', h⟩ | ⟨z, h⟩
      · obtain ⟨j, v, _, _, ⟨p, e, _⟩ | ⟨off, n, e, _⟩⟩ := look_slotsM hma 0 t _ h <;> simp at e
      · simp [St.enterM, lookP] at h
    | cx j o => obtain ⟨z, h⟩ := hx; simp [St.enterM, lookP] at h
  constructor
  · simp
  · exact ⟨by simp, List.nodup_nil⟩
  · exact Nat.zero_le _
  · exact fun b' o h => h.2
  · intro t av ht
    obtain ⟨j, v, h1, h2, h3⟩ := look_slotsM hma 0 t av ht
    have hj : j < vs.length := (List.getElem?_eq_some_iff.1 h2).1
    obtain rfl : t = j := by omega
    refine ⟨v, by rw [Array.getElem?_append_left (by simpa using hj)]; simpa using h2, ?_⟩
    rcases h3 with ⟨p, rfl, hr⟩ | ⟨off, n, rfl, o, cap, e1, e2, e3, e4, e5, e6⟩
    · exact Rp.mono hkp hr
    · exact ⟨o, cap, cs, c, T, e1, e2, hbg, e3, e4, e5, hG.blk, e6⟩
  · exact fun x hx => ⟨Nat.zero_le _, hblt⟩
  · exact fun x y hx hy _ => by rw [hlv x hx, hlv y hy]
  · intro j cs2 h
    obtain ⟨rfl, rfl⟩ := hbx j cs2 h
    obtain ⟨us, h1, h2, h3⟩ := hG.pre
    exact ⟨⟨T, c, us, hG.blk, h1, RpL.mono hkp h2, h3⟩, fun o h => h.1 rfl⟩
  · intro t z h; simp [St.enterM, lookP] at h
  · intro j i z h; simp [St.enterM, lookP] at h
  · intro t q h; simp [St.enterM, look] at h
theorem plain_any {p : PV} {v : Value} (h : plainR p = true) (k : Rp w Pr p v) {w' : World} {Pr' : Prot} : Rp w' Pr' p v := by
  unfold plainR at h
  split at h
  · cases k with | tup hr => cases hr; exact .tup .nil
  · obtain ⟨u, hu⟩ := Option.isSome_iff_exists.1 h
    exact valOf_any hu k
theorem plainsOf_ok (I : Inv base w Pr bk st a N) : ∀ {l : List ResultVar} {ps : List PV}, plainsOf st l = some ps → ∃ us, (l.mapM (resRun a.tmps)).run P w = .ok us w ∧ (∀ {w' : World} {Pr' : Prot}, RpL w' Pr' ps us) ∧ l.length = us.length
  | [], ps, h => by simp only [plainsOf, Option.some.injEq] at h; subst h; exact ⟨[], by simp, .nil, rfl⟩
  | .cell _ _ :: l, ps, h => by simp [plainsOf] at h
  | .tmp t :: l, ps, h => by
    simp only [plainsOf] at h
    split at h
    · rename_i p hl
      split at h
      · rename_i hpl
        simp only [Option.map_eq_some_iff] at h
        obtain ⟨qs, hq, rfl⟩ := h
        obtain ⟨us, h1, h2, h3⟩ := plainsOf_ok I hq
        obtain ⟨v, hv, hr⟩ := I.slots t _ hl
        exact ⟨v :: us, by simp [List.mapM_cons, resRun, hv, h1], .cons (plain_any hpl hr) h2, by simp [h3]⟩
      · simp at h
    · simp at h
theorem mres_ok {fn : Func} {r : MR} {cs' : List PV} (I : Inv base w Pr bk st a N) (hcs : look st.bx gk = some cs') {c' : Array Value} {T : TypeId} (hb : w.heap[bk (.bx gk)]? = some (.cells c' T (0, 0))) {sz : Nat} (h : mres st sz fn.results.toList = some r) :
    ∃ v, (results fn a.tmps).run P w = .ok v w ∧ ∀ {w' : World} {Pr' : Prot}, MrRp w' Pr' (bk (.bx gk)) c'.size cs' sz r v := by
  have hgs : ∀ {off n u}, BsRp st w bk gk off sz n u → GSl (bk (.bx gk)) c'.size cs' off sz n u := fun {off n u} h => by
    obtain ⟨o, cap, cs2, c2, T2, e1, e2, e3, e4, e5, e6, e7, e8⟩ := h
    rw [hcs] at e3; cases e3
    rw [hb] at e7; cases e7
    exact ⟨o, cap, e1, e2, e4, e5, e6, e8⟩
  unfold mres at h
  split at h
  · rename_i he
    simp only [Option.some.injEq] at h; subst h
    have : fn.results = #[] := Array.ext' (by simpa using he)
    exact ⟨_, results_none this _ _ _, .tup .nil⟩
  · rename_i t he
    have hrun : ∀ v, a.tmps[t]? = some v → (results fn a.tmps).run P w = .ok v w := fun v hv => by
      have := results_run (P := P) (w := w) (fn := fn) (tmps := a.tmps) (vs := [v]) (by rw [he]; simp [List.mapM_cons, resRun, hv])
      simpa using this
    split at h
    · rename_i p hl
      split at h
      · rename_i hpl
        simp only [Option.some.injEq] at h; subst h
        obtain ⟨v, hv, hr⟩ := I.slots t _ hl
        exact ⟨v, hrun v hv, plain_any hpl hr⟩
      · simp at h
    · rename_i k off s n hl
      split at h
      · rename_i hk
        obtain ⟨rfl, rfl⟩ := hk
        simp only [Option.some.injEq] at h; subst h
        obtain ⟨v, hv, hr⟩ := I.slots t _ hl
        exact ⟨v, hrun v hv, hgs hr⟩
      · simp at h
    · simp at h
  · rename_i t l hne he
    split at h
    · rename_i k off s n hl
      split at h
      · rename_i hk
        obtain ⟨rfl, rfl⟩ := hk
        simp only [Option.map_eq_some_iff] at h
        obtain ⟨ps, hps, rfl⟩ := h
        obtain ⟨v, hv, hr⟩ := I.slots t _ hl
        obtain ⟨us, h1, h2, h3⟩ := plainsOf_ok (P := P) I hps
        have hlen : (v :: us).length ≠ 1 := by
          intro e
          have : l = [] := by
            have : us.length = 0 := by simpa using e
            exact List.length_eq_zero_iff.1 (by omega)
          exact hne this
        have := results_run (P := P) (w := w) (fn := fn) (tmps := a.tmps) (vs := v :: us) (by rw [he]; simp [List.mapM_cons, resRun, hv, h1])
        rw [dif_neg hlen] at this
        exact ⟨_, this, v, us, rfl, hgs hr, h2⟩
      · simp at h
    · simp at h
  · simp at h
end
theorem guestSz_eq {w : World} {Pr : Prot} {b size : Nat} {gcs : List PV} {gsz : Nat} : ∀ {ms : List MA} {vs : List Value} {cs : List PV}, MaRp w Pr b size gcs gsz ms vs → guestCells ms = some cs → guestSz ms = gsz
  | _, _, _, .nil, h => by simp [guestCells] at h
  | _, _, _, .p _ hs, h => by
    simp only [guestSz]
    exact guestSz_eq hs (by simpa [guestCells] using h)
  | _, _, _, .g _ _, h => rfl
theorem flat_all {c : Code} {k : Nat} (h : (dstsOf c).all (fun d => d != k) = true) : ∀ d ∈ dstsOf c, d ≠ k := fun d hd => by
  have := List.all_eq_true.1 h d hd
  simpa using this
/-- One run of a callee that writes into an array of the caller's. -/
theorem mbody_is {P : Program} {S : Cl} {it : Nat → List PV → Option (Nat × List (List PV))} (hC : CallOk P S) (hI : IterOk P it) (hm : P.follows .mixedOrders = true) {f : Nat} {fn : Func} (hf : P.funcs[f]? = some fn) (hok : okFn fn = true) {note : Nat → Note} {k : Nat} {ms : List MA} {r : MR} {cs' : List PV}
    (h : ambody P S it (fun g => loopN g k) note fn ms = some (r, cs')) : MutIs P f ms r cs' := by
  simp only [ambody, Option.bind_eq_some_iff] at h
  obtain ⟨c, hc, h⟩ := h
  split at h
  · rename_i hfl
    simp only [Bool.and_eq_true] at hfl
    simp only [Option.bind_eq_some_iff] at h
    obtain ⟨⟨x, st'⟩, hrun, h⟩ := h
    simp only [okFn, hc, Bool.and_eq_true, Bool.not_eq_true'] at hok
    refine ⟨⟨fn, c, hf, hc, hok.2⟩, fun cs sz vs w Pr b T c0 hgc hp hG hma => callsIn_wide.1 (callsIn_of_wp (F := Fence.wide) (n := 2) hf hc trivial ?_ rfl)⟩
    have I0 := entry_invM hgc hp hG hma (fn.ntmps - vs.toArray.size)
    have hblt : b < w.heap.size := (Array.getElem?_eq_some_iff.1 hG.blk).1
    refine arun_ok (base := 0) (N := vs.length + (fn.ntmps - vs.toArray.size)) hC hI hm note k c (okCode_mono (by simp; omega) hok.1) Fence.wide easy_wide 2 w (guarded w b) ⟨fun j => if j = gk then some b else none, some []⟩ (.inl hfl.1)
      (fun d hd => if_neg (flat_all hfl.2 d hd)) (St.enterM ms) _ w x st' ⟨guarded w b, _, I0, Below.refl _ _, fun _ _ _ h => h, KO.refl _, fun j b' e => by simp only at e; split at e <;> simp_all, fun _ _ _ h1 h2 => ⟨h1, h2⟩, fun ds e => by simpa using e⟩ hrun _ fun a' w' G => ?_
    have fin : ((mres st' (guestSz ms) fn.results.toList).bind fun r => (look st'.bx gk).bind fun cs' => (guestCells ms).bind fun cs => if cs'.all litP' = true ∧ cs'.length = cs.length then some (r, cs') else none) = some (r, cs') →
        a'.defers = [] ∧ ∃ v, (results fn a'.tmps).run P w' = .ok v w' ∧ ∃ v', Ending.returned v = .returned v' ∧ MRet w Pr w' b T c0 sz cs r cs' v' := fun h => by
      simp only [Option.bind_eq_some_iff] at h
      obtain ⟨r1, hr1, cs1, hcs1, cs2, hcs2, h⟩ := h
      split at h
      · rename_i hcond
        simp only [Option.some.injEq, Prod.mk.injEq] at h
        obtain ⟨rfl, rfl⟩ := h
        rw [hgc] at hcs2; cases hcs2
        obtain ⟨PrF, bk, I, hbel, hpF, hko, hpin, hkc, hdf⟩ := G
        have hbk : bk (.bx gk) = b := hpin gk b (by simp)
        obtain ⟨⟨T2, c2, us, e1, e0, e2, e3⟩, e4⟩ := I.boxes gk cs1 hcs1
        obtain ⟨c3, e5, e6⟩ := hko.sized b c0 T _ hG.blk
        rw [hbk, e5] at e1; cases e1
        rw [guestSz_eq hma hgc] at hr1
        obtain ⟨v, hv1, hv2⟩ := mres_ok (P := P) I hcs1 (by rw [hbk]; exact e5) hr1
        refine ⟨hdf [] rfl, v, hv1, v, rfl, hbel.os, hbel.tape, hbel.output, hbel.size, fun j hj hjb => ?_, ⟨_, ⟨e5, ⟨us, e0, litP'_eq hcond.1 e2, e3⟩, hG.free⟩, e6⟩, hcond.2, ?_⟩
        · cases ho : w.heap[j]? with
          | none => rw [Array.getElem?_eq_getElem hj] at ho; simp at ho
          | some o =>
            cases hoc : o.isCells with
            | false => exact hko.same j o ho hoc
            | true =>
              cases o with
              | cells c4 T4 fz =>
                obtain ⟨c5, e7, e8⟩ := hko.sized j c4 T4 fz ho
                rw [e7]
                congr 2
                apply Array.ext_getElem?
                intro i
                by_cases hi : i < c4.size
                · have h1 : w.cell? ⟨j, i, none⟩ = some c4[i] := by
                    simp [World.cell?, ho, hi]
                  have h2 := (hkc j i _ ⟨hjb, hj⟩ h1).2
                  rw [Array.getElem?_eq_getElem hi, ← h2]
                  simp [World.cell?, e7]
                · rw [Array.getElem?_eq_none (by omega), Array.getElem?_eq_none (by omega)]
              | _ => simp [Obj.isCells] at hoc
        · rw [← hbk, ← e6]; exact hv2
      · simp at h
    cases x with
    | normal => exact fin h
    | ret => exact fin h
    | exit id => simp at h
  · simp at h
/-- The machine's groundwork: reckoned once a program. -/
structure MachOk (M : Mach) : Prop where
  orders : M.P.follows .mixedOrders = true
  iters : IterOk M.P M.iter
  fns : ∀ (f : Nat) (fn : Func), M.P.funcs[f]? = some fn → M.prim f = none → okFn fn = true
  prims : ∀ (f : Nat) (g : (Nat → List PV → Option RV) → List PV → Option RV), M.prim f = some g → ∀ call, (∀ f args r, call f args = some r → CallIs M.P f args r) → ∀ args r, g call args = some r → CallIs M.P f args r
theorem CallOk.with {P : Program} {C : Cl} (h : CallOk P C) (ex : Nat → Nat → Bool) (im : Nat → Bool) : CallOk P { C with ex := ex, im := im } := ⟨h.fn, h.mu⟩
theorem acl_ok {M : Mach} (hM : MachOk M) : ∀ n, CallOk M.P (acl M n)
  | 0 => ⟨fun f args r h => by simp [acl] at h, fun f ms r cs' h => by simp [acl] at h⟩
  | n + 1 => by
    have ih := acl_ok hM n
    refine ⟨fun f args r h => ?_, fun f ms r cs' h => ?_⟩
    · simp only [acl] at h
      split at h
      · rename_i g hg
        exact hM.prims f g hg _ ih.fn args r h
      · rename_i hg
        rw [Option.bind_eq_some_iff] at h
        obtain ⟨fn, hfn, h⟩ := h
        exact abody_is (ih.with _ _) hM.iters hM.orders hfn (hM.fns f fn hfn hg) h
    · simp only [acl] at h
      split at h
      · simp at h
      · rename_i hg
        rw [Option.bind_eq_some_iff] at h
        obtain ⟨fn, hfn, h⟩ := h
        exact mbody_is (ih.with _ _) hM.iters hM.orders hfn (hM.fns f fn hfn hg) h
theorem acall_ok {M : Mach} (hM : MachOk M) (n f : Nat) (args : List PV) (r : RV) (h : acall M n f args = some r) : CallIs M.P f args r := (acl_ok hM n).fn f args r h
end Go.Proofs.YtibbgjafjhcemaaDoor.Cul
/-! M26 -/
set_option linter.unusedVariables false
set_option linter.unusedSimpArgs false
namespace Go.Proofs.YtibbgjafjhcemaaDoor.Cul
open Go Go.RowKit
/-! ### Runs with symbolic data: a script tells what the run meets, in order; what it owes is collected -/
def AllP : List Prop → Prop
  | [] => True
  | p :: l => p ∧ AllP l
theorem AllP.app : ∀ {l m : List Prop}, AllP (l ++ m) → AllP l ∧ AllP m
  | [], _, h => ⟨trivial, h⟩
  | _ :: _, _, h => ⟨⟨h.1, (AllP.app h.2).1⟩, (AllP.app h.2).2⟩
/-- What a run meets (also: what is loaded; how an own array looks behind a store; what a callee answers that writes into one): how a comparison comes out (also: is a new slice empty?); what a call answers; how a loop ends; that a loop is run round by round; the answer of the operation with this destination. -/
inductive El where
  | c (b : Bool)
  | r (x : RV)
  | l (x : Xt) (s : St)
  | u (n : Nat)
  | v (d : Nat) (m : Made)
  | e (d : Nat) (p : PV)
  | i (d : Nat) (x : Int)
  | t (d n : Nat) (cs : List PV)
  | o (d off n : Nat)
  | f (cs : List PV)
  | g (b : Bool)
  | p (n : Nat) (cs : List PV)
  | w (d : Nat) (str : ByteArray)
  | a (d : Nat) (cs : List PV)
  | j (d i : Nat)
  | s (cs : List PV)
  | m (r : MR) (cs : List PV)
def cmpOp : BinOp → Bool
  | .eql | .neq | .lss | .leq | .gtr | .geq => true
  | _ => false
abbrev Ow (α : Type) := α × List El × List Prop
/-- A byte of a text. -/
def strAt (s : ByteArray) (n : Int) : Option Int := (if 0 ≤ n then s[n.toNat]? else none).map fun b => (b.toNat : Int)
/-! What is owed, in named forms. -/
abbrev Ld (P : Program) (t : TypeId) (cs : List PV) (o : Nat) (p : PV) : Prop := takeT P t cs o = some p
abbrev SlEq (cs : List PV) (a n : Nat) (cs' : List PV) : Prop := (cs.drop a).take n = cs'
abbrev Spl (cs : List PV) (off : Nat) (new cs' : List PV) : Prop := splice cs off new = cs'
abbrev CallsTo (call : Cl) (f : Nat) (as_ : List PV) (rv : RV) : Prop := call.fn f as_ = some rv
abbrev MutsTo (call : Cl) (f : Nat) (ms : List MA) (r : MR) (cs : List PV) : Prop := call.mu f ms = some (r, cs)
abbrev LoopEnds (P : Program) (call : Cl) (it : Nat → List PV → Option (Nat × List (List PV))) (k : Nat) (note : Nat → Note) (c : Code) (st : St) (x : Xt) (s1 : St) : Prop := loopN (arun P call it (fun g => loopN g k) note c) k st = some (x, s1)
abbrev StrAt (str : ByteArray) (n b : Int) : Prop := strAt str n = some b
abbrev RowAt (cs : List PV) (sz : Nat) (n : Int) (len : Nat) (cs' : List PV) : Prop := (0 ≤ n ∧ n < len) ∧ row cs sz n.toNat = cs'
abbrev AtIdx (n : Int) (len i : Nat) : Prop := n = (i : Int) ∧ i < len
abbrev Zeros (z : List PV) (n : Nat) (cs : List PV) : Prop := zerosOf z n = cs
abbrev SlStr (P : Program) (t : TypeId) (str : ByteArray) (lo hi : Option Value) (s' : ByteArray) : Prop := pureOp P (Instr.sliceAt t (.string str) lo hi none) = some (.lit (.string s'))
abbrev BytesAre (cs : List PV) (s' : ByteArray) : Prop := (bytesOf cs).map (fun l => ByteArray.mk l.toArray) = some s'
abbrev AppIs (n1 n2 : Nat) (c1 c2 : List PV) (bytes s m : Nat) (cs' : List PV) : Prop := (n1 + n2 = m ∧ c1 ++ c2 = cs') ∧ (m * bytes ≤ room ∧ m ≤ room) ∧ c2.length = n2 * s ∧ c1.length = n1 * s
abbrev EqIs (P : Program) (op : BinOp) (t : TypeId) (x y : Operand) (a b' : Value) (b : Bool) : Prop := pureOp P (do eqGuard op t x y a b'; binOp op t a b') = some (.lit (.bool b))
/-- Arithmetic that may stop. -/
def arithX (op : BinOp) (a b : Value) : Option (Value × List Prop) :=
  match op, a, b with
  | .shl, .int k x, .int _ y => some (.int k (k.wrap (x * 2 ^ min y.toNat k.bits)), [decide (y < 0) = false])
  | .shr, .int k x, .int _ y => some (.int k (x.fdiv (2 ^ min y.toNat k.bits)), [decide (y < 0) = false])
  | .quo, .int k x, .int k' y => if k = k' then some (.int k (k.wrap (x.tdiv y)), [decide (y = 0) = false]) else none
  | .rem, .int k x, .int k' y => if k = k' then some (.int k (x.tmod y), [decide (y = 0) = false]) else none
  | _, _, _ => none
def isStrT (P : Program) (t : TypeId) : Bool := match P.underlying t with | some .string => true | _ => false
theorem isStrT_is {P : Program} {t : TypeId} (h : isStrT P t = true) : P.underlying t = some .string := by
  unfold isStrT at h; split at h <;> first | assumption | cases h
/-- The operations that only make a value. -/
def quietX (P : Program) (call : Cl) (o : Oper) (st : St) (s : List El) : Option (Ow Made) :=
  match o.op with
  | .binOp op t x y _ => if cmpOp op then match s with
      | .c b :: s' => (st.val x).bind fun a => (st.val y).bind fun b' => match pureOp P (do eqGuard op t x y a b'; binOp op t a b') with
        | some (.lit (.bool c)) => some ({ v := .pv (.lit (.bool b)) }, s', [c = b])
        | _ => none
      | .g b :: s' => (st.val x).bind fun a => (st.val y).bind fun b' => some ({ v := .pv (.lit (.bool b)) }, s', [EqIs P op t x y a b' b])
      | _ => none else match (st.val x).bind fun a => (st.val y).bind fun b => arithX op a b with
      | some (v, ob) => some ({ v := .pv (.lit v) }, s, ob)
      | none => (quiet P call o st).map fun m => (m, s, [])
  | .index t x i => match s, st.pv x with
    | .i d b :: s', some (.lit (.string str)) => if o.dst = some d ∧ isStrT P t = true then ((st.pv i).bind intOfPV).map fun n => ({ v := .pv (.lit (.int .u8 b)) }, s', [StrAt str n b]) else none
    | .e d p :: s', some (.ag cs) => if o.dst = some d then match P.underlying t with
      | some (.array len e) => ((st.pv i).bind intOfPV).bind fun n => (sizeT P e).bind fun z => some ({ v := .pv p }, s', [0 ≤ n ∧ n < len, Ld P e cs (n.toNat * z) p])
      | _ => none else (quiet P call o st).map fun m => (m, s, [])
    | _, _ => (quiet P call o st).map fun m => (m, s, [])
  | .indexAddr t x i => ((st.pv i).bind intOfPV).bind fun n => match P.underlying t with
    | some (.slice e) => (sizeT P e).bind fun z => match st.ev x with
      | some (.pv (.sl sz len cs)) => if sz = z then (match s with
        | .a d cs' :: s' => if o.dst = some d then some ({ v := .pv (.el cs') }, s', [RowAt cs sz n len cs']) else none
        | _ => some ({ v := .pv (.el (row cs sz n.toNat)) }, s, [0 ≤ n ∧ n < len])) else none
      | some (.xr u) => match look st.sl u with
        | some (.ex sz len cs) => if sz = z then some ({ v := .xe u (n.toNat * sz) }, s, [0 ≤ n ∧ n < len]) else none
        | _ => none
      | some (.bs k off sz len) => if sz = z then (match s with
        | .j d i :: s' => if o.dst = some d then some ({ v := .bp k (off + i * sz) }, s', [AtIdx n len i]) else none
        | _ => some ({ v := .bp k (off + n.toNat * sz) }, s, [0 ≤ n ∧ n < len])) else none
      | _ => none
    | some (.array len e) => match s, st.ev x with
      | .j d i :: s', some (.bp k off) => if o.dst = some d then (sizeT P e).bind fun z => some ({ v := .bp k (off + i * z) }, s', [AtIdx n len i]) else (quiet P call o st).map fun m => (m, s, [])
      | _, _ => (quiet P call o st).map fun m => (m, s, [])
    | _ => (quiet P call o st).map fun m => (m, s, [])
  | .load t x => match s with
    | .e d p :: s' => if o.dst = some d then match st.ev x with
      | some (.bp k o) => (look st.bx k).map fun cs => ({ v := .pv p, tg := if !isRowT P t && (lookP st.gr (.c k o)).isSome then some (.c k o) else none }, s', [Ld P t cs o p])
      | some (.pv (.el cs)) => some ({ v := .pv p }, s', [Ld P t cs 0 p])
      | _ => none else (quiet P call o st).map fun m => (m, s, [])
    | _ => (quiet P call o st).map fun m => (m, s, [])
  | .slice t x lo hi mx => match st.ev x with
    | some (.bs k off sz n) => match P.underlying t, mx with
      | some (.slice e), none => if sizeT P e = some sz then
          (match hi with | none => some (n : Int) | some y => (st.pv y).bind intOfPV).bind fun h =>
          (match lo with | none => some (0 : Int) | some y => (st.pv y).bind intOfPV).bind fun l =>
          match s with
          | .o d off' n' :: s' => if o.dst = some d then some ({ v := .bs k off' sz n' }, s', [0 ≤ l ∧ l ≤ h ∧ h ≤ n, off + l.toNat * sz = off', h.toNat - l.toNat = n']) else none
          | _ => some ({ v := .bs k (off + l.toNat * sz) sz (h.toNat - l.toNat) }, s, [0 ≤ l ∧ l ≤ h ∧ h ≤ n]) else none
      | _, _ => none
    | some (.pv (.sl sz n cs)) => match P.underlying t, mx with
      | some (.slice e), none => if sizeT P e = some sz then
          (match hi with | none => some (n : Int) | some y => (st.pv y).bind intOfPV).bind fun h =>
          (match lo with | none => some (0 : Int) | some y => (st.pv y).bind intOfPV).bind fun l =>
          match s with
          | .t d n' cs' :: s' => if o.dst = some d then some ({ v := .pv (.sl sz n' cs') }, s', [0 ≤ l ∧ l ≤ h ∧ h ≤ n, h.toNat - l.toNat = n', SlEq cs (l.toNat * sz) ((h.toNat - l.toNat) * sz) cs']) else none
          | _ => some ({ v := .pv (.sl sz (h.toNat - l.toNat) ((cs.drop (l.toNat * sz)).take ((h.toNat - l.toNat) * sz))) }, s, [0 ≤ l ∧ l ≤ h ∧ h ≤ n]) else none
      | _, _ => none
    | _ => (quiet P call o st).map fun m => (m, s, [])
  | .call { callee := .value g, args, .. } => match s with
    | .r rv :: s' => match st.ev g with
      | some v => (st.argOf v).bind fun p => match p with
        | .fn f caps => (argsOf st args.toList).bind fun as_ =>
          if leadsOut v || args.toList.any (fun x => ((st.ev x).map leadsOut).getD true) then (if plainR rv.v then some ({ v := .pv rv.v }, s', [CallsTo call f (as_ ++ caps) rv]) else none)
          else some ({ v := .pv rv.v, gr := rv.gr }, s', [CallsTo call f (as_ ++ caps) rv])
        | _ => none
      | none => none
    | _ => none
  | _ => (quiet P call o st).map fun m => (m, s, [])
/-- A whole number's name may be given. -/
def quietI (P : Program) (call : Cl) (o : Oper) (st : St) (s : List El) : Option (Ow Made) :=
  match s, o.dst, o.op with
  | _, _, .index .. => quietX P call o st s
  | .i d x :: s', some d', _ => if d = d' then (quietX P call o st s').bind fun r => match r.1.v with
      | .pv (.lit (.int k y)) => some ({ r.1 with v := .pv (.lit (.int k x)) }, r.2.1, (y = x) :: r.2.2)
      | _ => none else quietX P call o st s
  | _, _, _ => quietX P call o st s
def optV (st : St) : Option Operand → Option (Option Value)
  | none => some none
  | some x => (st.val x).map some
/-- A text's name may be given. -/
def quietW (P : Program) (call : Cl) (o : Oper) (st : St) (s : List El) : Option (Ow Made) :=
  match s, o.dst, o.op with
  | .w d s' :: r, some d', .slice t x lo hi none => if d = d' then match st.ev x with
      | some (.pv (.lit (.string str))) => (optV st lo).bind fun l => (optV st hi).bind fun h => some ({ v := .pv (.lit (.string s')) }, r, [SlStr P t str l h s'])
      | _ => none else quietI P call o st s
  | .w d s' :: r, some d', .convert src dst x => if d = d' then match st.pv x, P.underlying src, P.underlying dst with
      | some (.sl 1 n cs), some (.slice e), some .string => match P.underlying e with
        | some (.int .u8) => some ({ v := .pv (.lit (.string s')) }, r, [BytesAre cs s'])
        | _ => none
      | _, _, _ => none else quietI P call o st s
  | _, _, _ => quietI P call o st s
def quietV (P : Program) (call : Cl) (o : Oper) (st : St) (s : List El) : Option (Ow Made) :=
  match s, o.dst with
  | .v d m :: s', some d' => if d = d' then some (m, s', [quiet P call o st = some m]) else quietI P call o st s
  | _, _ => quietW P call o st s
def effectX (P : Program) (o : Oper) (st : St) (sc : List El) : Option (Ow St) :=
  match o.op with
  | .store t a x => match st.ev a with
    | some (.xe u off) => if o.dst = none then match look st.sl u, st.pv x with
      | some (.ex sz n cs), some p => if some p.cells.length = sizeT P t ∧ isTup p = false then some ({ st with sl := (u, .ex sz n (splice cs off p.cells)) :: drop1 st.sl u }, sc, [off + p.cells.length ≤ cs.length]) else none
      | _, _ => none else none
    | some (.bp k off) => match sc with
      | .s cs' :: sc' => if o.dst = none then match x, st.ev x, look st.bx k with
        | .tmp u, some (.pv p), some cs => if some p.cells.length = sizeT P t ∧ isTup p = false ∧ (lookP st.gr (.s u)).isNone = true then some ({ st with bx := (k, cs') :: drop1 st.bx k, gr := st.gr.filter (fun x => x.1.out k off p.cells.length), tg := st.tg.map (killOut k off p.cells.length) }, sc', [off + p.cells.length ≤ cs.length, Spl cs off p.cells cs']) else none
        | .const _, some (.pv p), some cs => if some p.cells.length = sizeT P t ∧ isTup p = false then some ({ st with bx := (k, cs') :: drop1 st.bx k, gr := st.gr.filter (fun x => x.1.out k off p.cells.length), tg := st.tg.map (killOut k off p.cells.length) }, sc', [off + p.cells.length ≤ cs.length, Spl cs off p.cells cs']) else none
        | _, _, _ => none else none
      | _ => (effect P o st).map fun m => (m, sc, [])
    | _ => (effect P o st).map fun m => (m, sc, [])
  | .makeSlice t l c => match sc with
    | .c b :: sc' => o.dst.bind fun d => match P.underlying t, (st.pv l).bind intOfPV, (st.pv c).bind intOfPV with
      | some (.slice e), some n, some m => (sizeT P e).bind fun s => (zeroT P e).bind fun z =>
        if z.cells.length = s ∧ 0 < s then
          (match b, sc' with
            | false, .f cs0 :: sc2 => (st.newBoxA d cs0 (.bs d 0 s n.toNat)).map fun s' => (s', sc2, [0 ≤ n ∧ n ≤ m ∧ m * P.bytesOf e ≤ room ∧ m ≤ room, decide (n = 0) = false, Zeros z.cells n.toNat cs0])
            | _, _ => (if b then some (st.made (some d) { v := .pv (.sl s 0 []), gr := some s }) else st.newBoxA d (zerosOf z.cells n.toNat) (.bs d 0 s n.toNat)).map fun s' => (s', sc', [0 ≤ n ∧ n ≤ m ∧ m * P.bytesOf e ≤ room ∧ m ≤ room, decide (n = 0) = b])) else none
      | _, _, _ => none
    | _ => none
  | .call { callee := .builtin .append, args, argTypes } => o.dst.bind fun d => match args.toList, argTypes.toList with
    | [x, y], [T, U] => match P.underlying T, P.underlying U with
      | some (.slice e), some (.slice _) => (sizeT P e).bind fun s => (zeroT P e).bind fun z => (st.pv x).bind fun p => (viewS p).bind fun v => ((st.pv y).bind viewS).bind fun u =>
        if 0 < s ∧ z.cells.length = s then
          match p with
          | .lit _ => match sc with
            | .c b :: sc' => some (if b then st.put (some d) (.pv p) else st.made (some d) { v := .pv (.sl s u.1 u.2), gr := some s }, sc', [(v.1 + u.1) * P.bytesOf e ≤ room ∧ v.1 + u.1 ≤ room, u.2.length = u.1 * s ∧ v.2.length = v.1 * s, decide (u.1 = 0) = b])
            | _ => none
          | _ => match x with
            | .tmp t =>
              (if lookP st.gr (.s t) = some s then some (Pl.s t) else match st.tag t with | some q => if lookP st.gr q = some s then some q else none | none => none).map fun q =>
                match sc with
                | .p m cs' :: sc' => (({ st with gr := st.gr.filter (fun x => x.1 ≠ q), tg := st.tg.map (killT q) } : St).made (some d) { v := .pv (.sl s m cs'), gr := some s }, sc', [AppIs v.1 u.1 v.2 u.2 (P.bytesOf e) s m cs'])
                | _ => (({ st with gr := st.gr.filter (fun x => x.1 ≠ q), tg := st.tg.map (killT q) } : St).made (some d) { v := .pv (.sl s (v.1 + u.1) (v.2 ++ u.2)), gr := some s }, sc, [(v.1 + u.1) * P.bytesOf e ≤ room ∧ v.1 + u.1 ≤ room, u.2.length = u.1 * s ∧ v.2.length = v.1 * s])
            | _ => none
        else none
      | _, _ => none
    | _, _ => none
  | _ => (effect P o st).map fun m => (m, sc, [])
def mutCallX (call : Cl) (o : Oper) (st : St) (f : Nat) (vs : List AV) (s : List El) : Option (Ow St) :=
  match s with
  | .m r cs :: s' => (guestOf vs).bind fun g => (masOf st vs).bind fun ms => if mrOk r then some ((st.turnBox g.1 cs).put o.dst (resA g.1 g.2 r), s', [MutsTo call f ms r cs]) else none
  | _ => none
def exCallX (call : Cl) (o : Oper) (st : St) (s : List El) : Option (Ow St) :=
  match s with
  | .r rv :: s' => match o.op with
    | .call { callee := .value g, args, .. } => match st.ev g with
      | some (.pv (.fn f caps)) => if args.toList.any (fun x => ((st.ev x).map leadsOut).getD true) then none else
        (argsOf st args.toList).bind fun as_ => o.dst.bind fun d => match rv.v, rv.gr with
          | .sl sz n cs, some z => if z = sz then (st.newBoxA d cs (.bs d 0 sz n)).map fun s2 => (s2, s', [CallsTo call f (as_ ++ caps) rv, cs.all litP' = true]) else none
          | _, _ => none
      | _ => none
    | _ => none
  | _ => none
def aopX (P : Program) (call : Cl) (o : Oper) (st : St) (s : List El) : Option (Ow St) :=
  match calleeOf st o with
  | some (f, vs) => if call.im f then mutCallX call o st f vs s else if call.ex f (o.dst.getD 0) then exCallX call o st s else if isQuiet o.op then (quietV P call o st s).map fun x => (st.made o.dst x.1, x.2) else effectX P o st s
  | none => if isQuiet o.op then (quietV P call o st s).map fun x => (st.made o.dst x.1, x.2) else effectX P o st s
def aopsX (P : Program) (call : Cl) (ops : List Oper) : List Oper → St → List El → Option (Ow St)
  | [], st, s => some (st, s, [])
  | o :: l, st, s => (aWanted ops o st).bind fun
    | true => (aopX P call o st s).bind fun y => (aopsX P call ops l y.1 y.2.1).map fun z => (z.1, z.2.1, y.2.2 ++ z.2.2)
    | false => aopsX P call ops l (st.put o.dst undefA) s
def exMadeX (call : Cl) (o : Oper) (st : St) (s : List El) : Option (Ow Made) :=
  match s with
  | .r rv :: s' => match o.op with
    | .call { callee := .value (.func f), args, .. } => if args.toList.any (fun x => ((st.ev x).map leadsOut).getD true) then none else
      (argsOf st args.toList).bind fun as_ => match rv.v, rv.gr with
        | .sl sz n cs, some z => if z = sz then some ({ v := .newp cs (some (sz, n)) }, s', [CallsTo call f as_ rv, cs.all litP' = true]) else none
        | _, _ => none
    | _ => none
  | _ => none
def quietDX (P : Program) (call : Cl) (o : Oper) (st : St) (s : List El) : Option (Ow Made) :=
  if exD call o then exMadeX call o st s else match o.op with
  | .assign _ | .alloc _ => (quietD P call o st).map fun m => (m, s, [])
  | _ => (quietV P call o st s).bind fun x => if isEx x.1.v then none else some ({ x.1 with gr := none }, x.2)
def aopsDX (P : Program) (call : Cl) (ops : List Oper) : List Oper → St → List El → Option (Ow St)
  | [], st, s => some (st, s, [])
  | o :: l, st, s => (aWanted ops o st).bind fun
    | true => (quietDX P call o st s).bind fun y => (aopsDX P call ops l (st.putD o.dst y.1) y.2.1).map fun z => (z.1, z.2.1, y.2.2 ++ z.2.2)
    | false => aopsDX P call ops l (st.putD o.dst { v := undefA }) s
def aregionX (P : Program) (call : Cl) (ops : List Oper) (draw : Bool) (st : St) (s : List El) : Option (Ow St) :=
  if draw then
    let n := headN call ops
    if ((ops.take n).all (freshDst st) && headOk call ops n) = true then (aopsDX P call ops (ops.take n) st s).bind fun x => (x.1.settle (ops.take n)).bind fun s' => (aopsX P call ops (ops.drop n) s' x.2.1).map fun y => (y.1, y.2.1, x.2.2 ++ y.2.2) else none
  else aopsX P call ops ops st s
/-- A frozen array's cells may be named. -/
def still1X (g : Bool) (st : St) (t : Nat) (sc : List El) : Ow St :=
  match look st.sl t, sc with
  | some (.bs k off sz n), .f cs' :: sc' => match look st.bx k with
    | some cs => ((st.dropBox t k).made (some t) { v := .pv (.sl sz n cs'), gr := grIf g off sz }, sc', [SlEq cs off (n * sz) cs'])
    | none => (st.stillG g t, sc, [])
  | _, _ => (st.stillG g t, sc, [])
def stillX : List Nat → St → List El → Ow St
  | [], st, sc => (st, sc, [])
  | t :: l, st, sc => ((stillX l (still1X false st t sc).1 (still1X false st t sc).2.1).1, (stillX l (still1X false st t sc).1 (still1X false st t sc).2.1).2.1, (still1X false st t sc).2.2 ++ (stillX l (still1X false st t sc).1 (still1X false st t sc).2.1).2.2)
theorem still1X_ok {g : Bool} {st : St} {t : Nat} {sc : List El} (h : AllP (still1X g st t sc).2.2) : (still1X g st t sc).1 = st.stillG g t := by
  unfold still1X at h ⊢
  split at h
  · rename_i k off sz n cs' sc' h1
    split at h
    · rename_i cs h2
      have h3 := h.1
      simp only [St.stillG, h1, h2]
      rw [h3]
    · rfl
  · rfl
theorem stillX_ok : ∀ {l : List Nat} {st : St} {sc : List El}, AllP (stillX l st sc).2.2 → (stillX l st sc).1 = l.foldl St.cold1 st
  | [], st, sc, _ => rfl
  | t :: l, st, sc, h => by
    have h' := h.app
    simp only [stillX, List.foldl_cons]
    rw [stillX_ok h'.2, still1X_ok h'.1]; rfl
/-- A loop round by round. -/
def loopX (f : St → List El → Option (Ow (Xt × St))) : Nat → St → List El → Option (Ow (Xt × St))
  | 0, _, _ => none
  | n + 1, st, s => (f st s).bind fun x => match x.1.1 with
    | .normal => (loopX f n x.1.2 x.2.1).map fun y => (y.1, y.2.1, x.2.2 ++ y.2.2)
    | _ => some x
def aroundsX (asg body : St → List El → Option (Ow (Xt × St))) (st1 : St) (ps : List Nat) : List (List PV) → St → List El → Option (Ow (Xt × St))
  | [], cur, s => some ((.normal, st1.after cur), s, [])
  | x :: xs, cur, s => (asg (putArgs ps x (st1.after cur)) s).bind fun y => match y.1.1 with
    | .normal => (body y.1.2 y.2.1).bind fun z => match z.1.1 with
      | .normal => (aroundsX asg body st1 ps xs z.1.2 z.2.1).map fun t => (t.1, t.2.1, y.2.2 ++ (z.2.2 ++ t.2.2))
      | e => some ((e, st1.after z.1.2), z.2.1, y.2.2 ++ z.2.2)
    | _ => none
def arunX (P : Program) (call : Cl) (it : Nat → List PV → Option (Nat × List (List PV))) (k : Nat) (note : Nat → Note) : Code → St → List El → Option (Ow (Xt × St))
  | .skip, st, s => some ((.normal, st), s, [])
  | .region id ops dr, st, s => (aregionX P call ops.toList dr (stillX (note id).still st s).1 (stillX (note id).still st s).2.1).map fun x => ((.normal, x.1.keepOnly (note id).keep), x.2.1, (stillX (note id).still st s).2.2 ++ x.2.2)
  | .seq a b, st, s => (arunX P call it k note a st s).bind fun x => match x.1.1 with
    | .normal => (arunX P call it k note b x.1.2 x.2.1).map fun y => (y.1, y.2.1, x.2.2 ++ y.2.2)
    | _ => some x
  | .cond c t e, st, s => (st.val c).bind fun
    | .bool true => arunX P call it k note t st s
    | .bool false => arunX P call it k note e st s
    | _ => none
  | .block id c, st, s => (arunX P call it k note c st s).map fun x => match x.1.1 with
    | .exit j => if j = id then ((.normal, x.1.2), x.2) else x
    | _ => x
  | .loop c, st, s => match s with
    | .l x s1 :: s' => some ((x, s1), s', [LoopEnds P call it k note c st x s1])
    | .u n :: s' => (loopX (arunX P call it k note c) n st s').map fun x => (x.1, x.2.1, (n ≤ k) :: x.2.2)
    | _ => none
  | .rangeFunc g ps asg body, st, s => (st.pv g).bind fun
    | .fn f caps => (it f caps).bind fun x => if x.1 = ps.size then
        aroundsX (arunX P call it k note asg) (arunX P call it k note body) (st.shed (ps.toList ++ (dstsOf asg ++ dstsOf body))) ps.toList x.2 (st.shed (ps.toList ++ (dstsOf asg ++ dstsOf body))) s else none
    | _ => none
  | .exit id, st, s => some ((.exit id, st), s, [])
  | .ret, st, s => some ((.ret, st), s, [])
  | _, _, _ => none
/-- The answer; an own array's cells may be named. -/
def endX (P : Program) (rs : List ResultVar) (st : St) (sc : List El) : Option (RV × List Prop) :=
  match sc, rs with
  | [], _ => (aresults P st rs).map fun r => (r, [])
  | [.f cs'], [.tmp t] => match (still1X true st t [.f cs']).2.1 with
    | [] => (aresult1 P (still1X true st t [.f cs']).1 (.tmp t)).map fun r => (r, (still1X true st t [.f cs']).2.2)
    | _ => none
  | _, _ => none
def abodyX (P : Program) (call : Cl) (it : Nat → List PV → Option (Nat × List (List PV))) (k : Nat) (note : Nat → Note) (fn : Func) (args : List PV) (s : List El) : Option (RV × List Prop) :=
  fn.body.bind fun c => (arunX P call it k note c (.enter args) s).bind fun x => match x.1.1 with
    | .exit _ => none
    | _ => (endX P fn.results.toList x.1.2 x.2.1).map fun r => (r.1, x.2.2 ++ r.2)
def ambodyX (P : Program) (call : Cl) (it : Nat → List PV → Option (Nat × List (List PV))) (k : Nat) (note : Nat → Note) (fn : Func) (ms : List MA) (s : List El) : Option ((MR × List PV) × List Prop) :=
  fn.body.bind fun c => if flat c && (dstsOf c).all (fun d => d != gk) then (arunX P call it k note c (.enterM ms) s).bind fun x => match x.1.1, x.2.1 with
    | .exit _, _ => none
    | _, [] => (mres x.1.2 (guestSz ms) fn.results.toList).bind fun r => (look x.1.2.bx gk).bind fun cs' => (guestCells ms).map fun cs => ((r, cs'), (cs'.all litP' = true) :: (cs'.length = cs.length) :: x.2.2)
    | _, _ => none else none
section
variable {P : Program} {it : Nat → List PV → Option (Nat × List (List PV))} {call : Cl} {k : Nat} {note : Nat → Note}
theorem arithX_ok {op : BinOp} {t : TypeId} {x y : Operand} {a b v : Value} {l : List Prop} (e : arithX op a b = some (v, l)) (h : AllP l) : mkd (pureOp P (do eqGuard op t x y a b; binOp op t a b)) = some { v := .pv (.lit v) } := by
  unfold arithX at e
  split at e
  · simp only [Option.some.injEq, Prod.mk.injEq] at e
    obtain ⟨rfl, rfl⟩ := e
    have := of_decide_eq_false h.1
    simp [mkd, pureOp, eqGuard, binOp, Op.shift, if_neg this, evalPure, pvOf, scal, Bind.bind, Sem.bind, pure, Pure.pure]
  · simp only [Option.some.injEq, Prod.mk.injEq] at e
    obtain ⟨rfl, rfl⟩ := e
    have := of_decide_eq_false h.1
    simp [mkd, pureOp, eqGuard, binOp, Op.shift, if_neg this, evalPure, pvOf, scal, Bind.bind, Sem.bind, pure, Pure.pure]
  · split at e
    · rename_i hk
      subst hk
      simp only [Option.some.injEq, Prod.mk.injEq] at e
      obtain ⟨rfl, rfl⟩ := e
      have := of_decide_eq_false h.1
      simp [mkd, pureOp, eqGuard, binOp, Op.intDiv, if_neg this, evalPure, pvOf, scal, Bind.bind, Sem.bind, pure, Pure.pure]
    · simp at e
  · split at e
    · rename_i hk
      subst hk
      simp only [Option.some.injEq, Prod.mk.injEq] at e
      obtain ⟨rfl, rfl⟩ := e
      have := of_decide_eq_false h.1
      simp [mkd, pureOp, eqGuard, binOp, Op.intDiv, if_neg this, evalPure, pvOf, scal, Bind.bind, Sem.bind, pure, Pure.pure]
    · simp at e
  · simp at e
theorem strIndex_ok {t : TypeId} {str : ByteArray} {k : IntKind} {n b : Int} (hu : P.underlying t = some .string) (h : strAt str n = some b) : pureOp P (Instr.index t (.string str) (.int k n)) = some (.lit (.int .u8 b)) := by
  unfold strAt at h
  simp only [Option.map_eq_some_iff] at h
  obtain ⟨c, h1, rfl⟩ := h
  split at h1
  · rename_i h0
    simp [pureOp, Instr.index, asIntOf, underlying, program, hu, h0, h1, evalPure, pvOf, scal, Bind.bind, Sem.bind, pure, Pure.pure]
  · simp at h1
theorem quietX_ok {o : Oper} {st : St} {s s' : List El} {m : Made} {l : List Prop} (e : quietX P call o st s = some (m, s', l)) (hl : AllP l) : quiet P call o st = some m := by
  have dflt : ∀ {s : List El}, ((quiet P call o st).map fun m => (m, s, ([] : List Prop))) = some (m, s', l) → quiet P call o st = some m := fun e => by
    simp only [Option.map_eq_some_iff, Prod.mk.injEq] at e
    obtain ⟨q, hq, rfl, _, _⟩ := e
    exact hq
  unfold quietX at e
  split at e
  · rename_i op t x y p ho
    split at e
    · split at e
      · rename_i b s1
        simp only [Option.bind_eq_some_iff] at e
        obtain ⟨a, ha, b', hb, e⟩ := e
        split at e
        · rename_i c hc
          simp only [Option.some.injEq, Prod.mk.injEq] at e
          obtain ⟨rfl, rfl, rfl⟩ := e
          have : c = b := hl.1
          subst this
          simp only [quiet, ho, ha, hb, Option.bind_some, hc, mkd, Option.map_some]
        · simp at e
      · rename_i b s1
        simp only [Option.bind_eq_some_iff, Option.some.injEq, Prod.mk.injEq] at e
        obtain ⟨a, ha, b', hb, rfl, rfl, rfl⟩ := e
        have hc := hl.1
        simp only [quiet, ho, ha, hb, Option.bind_some, mkd]
        rw [hc]; rfl
      · simp at e
    · split at e
      · rename_i v ob hv
        simp only [Option.some.injEq, Prod.mk.injEq] at e
        obtain ⟨rfl, rfl, rfl⟩ := e
        simp only [Option.bind_eq_some_iff] at hv
        obtain ⟨a, ha, b, hb, hv⟩ := hv
        simp only [quiet, ho, ha, hb, Option.bind_some]
        exact arithX_ok hv hl
      · exact dflt e
  · rename_i t x i ho
    split at e
    · rename_i d b s1 str hp
      split at e
      · rename_i hc
        simp only [Option.map_eq_some_iff, Prod.mk.injEq] at e
        obtain ⟨n, hn, rfl, rfl, rfl⟩ := e
        have hu := isStrT_is hc.2
        simp only [quiet, ho, hp]
        obtain ⟨k, hk⟩ : ∃ k, st.pv i = some (.lit (.int k n)) := by
          simp only [Option.bind_eq_some_iff] at hn
          obtain ⟨q, h1, h2⟩ := hn
          unfold intOfPV at h2
          split at h2
          · simp only [Option.some.injEq] at h2; subst h2; exact ⟨_, h1⟩
          · simp at h2
        simp only [St.val, hp, hk, hu, Option.bind_some, valOf, strIndex_ok hu hl.1, mkd, Option.map_some]
      · simp at e
    · rename_i d p s1 cs hp
      split at e
      · split at e
        · rename_i len el hu
          simp only [Option.bind_eq_some_iff, Option.some.injEq, Prod.mk.injEq] at e
          obtain ⟨n, ⟨q, hq, hn⟩, z, hz, rfl, rfl, rfl⟩ := e
          simp only [quiet, ho, hp, hu]
          simp only [hq, Option.bind_some, hn, hz]
          rw [if_pos hl.1, hl.2.1]; rfl
        · simp at e
      · exact dflt e
    · exact dflt e
  · rename_i t x i ho
    simp only [Option.bind_eq_some_iff] at e
    obtain ⟨n, hn, e⟩ := e
    split at e
    · rename_i el hu
      simp only [Option.bind_eq_some_iff] at e
      obtain ⟨z, hz, e⟩ := e
      split at e
      · rename_i sz len cs hx
        split at e
        · rename_i hs
          split at e
          · split at e
            · simp only [Option.some.injEq, Prod.mk.injEq] at e
              obtain ⟨rfl, rfl, rfl⟩ := e
              simp only [quiet, ho, Option.bind_eq_some_iff]
              refine ⟨n, hn, ?_⟩
              simp only [hu, Option.bind_eq_some_iff]
              refine ⟨z, hz, ?_⟩
              simp only [hx]
              rw [if_pos ⟨hs, hl.1.1.1, hl.1.1.2⟩, hl.1.2]
            · simp at e
          · simp only [Option.some.injEq, Prod.mk.injEq] at e
            obtain ⟨rfl, rfl, rfl⟩ := e
            simp only [quiet, ho, Option.bind_eq_some_iff]
            refine ⟨n, hn, ?_⟩
            simp only [hu, Option.bind_eq_some_iff]
            refine ⟨z, hz, ?_⟩
            simp only [hx]
            rw [if_pos ⟨hs, hl.1.1, hl.1.2⟩]
        · simp at e
      · rename_i u hx
        split at e
        · rename_i sz len cs hlu
          split at e
          · rename_i hs
            simp only [Option.some.injEq, Prod.mk.injEq] at e
            obtain ⟨rfl, rfl, rfl⟩ := e
            simp only [quiet, ho, Option.bind_eq_some_iff]
            refine ⟨n, hn, ?_⟩
            simp only [hu, Option.bind_eq_some_iff]
            refine ⟨z, hz, ?_⟩
            simp only [hx, hlu]
            rw [if_pos ⟨hs, hl.1.1, hl.1.2⟩]
          · simp at e
        · simp at e
      · rename_i k off sz len hx
        split at e
        · rename_i hs
          split at e
          · split at e
            · simp only [Option.some.injEq, Prod.mk.injEq] at e
              obtain ⟨rfl, rfl, rfl⟩ := e
              have h1 := hl.1.1
              have h2 := hl.1.2
              subst h1
              simp only [quiet, ho, Option.bind_eq_some_iff]
              refine ⟨_, hn, ?_⟩
              simp only [hu, Option.bind_eq_some_iff]
              refine ⟨z, hz, ?_⟩
              simp only [hx]
              rw [if_pos ⟨hs, by omega, by omega⟩, Int.toNat_natCast]
            · simp at e
          · simp only [Option.some.injEq, Prod.mk.injEq] at e
            obtain ⟨rfl, rfl, rfl⟩ := e
            simp only [quiet, ho, Option.bind_eq_some_iff]
            refine ⟨n, hn, ?_⟩
            simp only [hu, Option.bind_eq_some_iff]
            refine ⟨z, hz, ?_⟩
            simp only [hx]
            rw [if_pos ⟨hs, hl.1.1, hl.1.2⟩]
        · simp at e
      · simp at e
    · rename_i len el hu
      split at e
      · rename_i d i' s1 k off hx
        split at e
        · simp only [Option.bind_eq_some_iff, Option.some.injEq, Prod.mk.injEq] at e
          obtain ⟨z, hz, rfl, rfl, rfl⟩ := e
          have h1 := hl.1.1
          have h2 := hl.1.2
          subst h1
          simp only [quiet, ho, Option.bind_eq_some_iff]
          refine ⟨_, hn, ?_⟩
          simp only [hu, Option.bind_eq_some_iff]
          refine ⟨z, hz, ?_⟩
          simp only [hx]
          rw [if_pos ⟨by omega, by omega⟩, Int.toNat_natCast]
        · exact dflt e
      · exact dflt e
    · exact dflt e
  · rename_i t x ho
    split at e
    · rename_i d p s1
      split at e
      · split at e
        · rename_i k o' hx
          simp only [Option.map_eq_some_iff, Prod.mk.injEq] at e
          obtain ⟨cs, hk, rfl, rfl, rfl⟩ := e
          simp only [quiet, ho, hx, Option.bind_eq_some_iff]
          refine ⟨cs, hk, ?_⟩
          rw [hl.1]; rfl
        · rename_i cs hx
          simp only [Option.some.injEq, Prod.mk.injEq] at e
          obtain ⟨rfl, rfl, rfl⟩ := e
          simp only [quiet, ho, hx]
          rw [hl.1]; rfl
        · simp at e
      · exact dflt e
    · exact dflt e
  · rename_i t x lo hi mx ho
    split at e
    · rename_i k off sz n hx
      split at e
      · rename_i el1 el2 el hu
        split at e
        · rename_i hs
          simp only [Option.bind_eq_some_iff] at e
          obtain ⟨h, hh, lw, hlw, e⟩ := e
          split at e
          · split at e
            · simp only [Option.some.injEq, Prod.mk.injEq] at e
              obtain ⟨rfl, rfl, rfl⟩ := e
              obtain ⟨h1, h2, h3, _⟩ := hl
              simp only [quiet, ho, hx, hu]
              rw [if_pos hs]
              simp only [Option.bind_eq_some_iff]
              refine ⟨h, hh, lw, hlw, ?_⟩
              rw [if_pos h1, h2, h3]
            · simp at e
          · simp only [Option.some.injEq, Prod.mk.injEq] at e
            obtain ⟨rfl, rfl, rfl⟩ := e
            simp only [quiet, ho, hx, hu]
            rw [if_pos hs]
            simp only [Option.bind_eq_some_iff]
            refine ⟨h, hh, lw, hlw, ?_⟩
            rw [if_pos hl.1]
        · simp at e
      · simp at e
    · rename_i sz n cs hx
      split at e
      · rename_i el1 el2 el hu
        split at e
        · rename_i hs
          simp only [Option.bind_eq_some_iff] at e
          obtain ⟨h, hh, lw, hlw, e⟩ := e
          split at e
          · split at e
            · simp only [Option.some.injEq, Prod.mk.injEq] at e
              obtain ⟨rfl, rfl, rfl⟩ := e
              obtain ⟨h1, h2, h3, _⟩ := hl
              simp only [quiet, ho, hx, hu]
              rw [if_pos hs]
              simp only [Option.bind_eq_some_iff]
              refine ⟨h, hh, lw, hlw, ?_⟩
              rw [if_pos h1, ← h2, ← h3]
            · simp at e
          · simp only [Option.some.injEq, Prod.mk.injEq] at e
            obtain ⟨rfl, rfl, rfl⟩ := e
            simp only [quiet, ho, hx, hu]
            rw [if_pos hs]
            simp only [Option.bind_eq_some_iff]
            refine ⟨h, hh, lw, hlw, ?_⟩
            rw [if_pos hl.1]
        · simp at e
      · simp at e
    · exact dflt e
  · rename_i g args ts ho
    split at e
    · rename_i rv s1
      split at e
      · rename_i v hv
        simp only [Option.bind_eq_some_iff] at e
        obtain ⟨p, hp, e⟩ := e
        split at e
        · rename_i f caps
          simp only [Option.bind_eq_some_iff] at e
          obtain ⟨as_, has, e⟩ := e
          split at e
          · rename_i hout
            split at e
            · rename_i hpl
              simp only [Option.some.injEq, Prod.mk.injEq] at e
              obtain ⟨rfl, rfl, rfl⟩ := e
              simp only [quiet, ho, hv, Option.bind_eq_some_iff]
              refine ⟨.fn f caps, hp, ?_⟩
              simp only [Option.bind_eq_some_iff]
              refine ⟨as_, has, ?_⟩
              simp only [callOut, hl.1, Option.bind_some]
              rw [if_pos hout, if_pos hpl]
            · simp at e
          · rename_i hout
            simp only [Option.some.injEq, Prod.mk.injEq] at e
            obtain ⟨rfl, rfl, rfl⟩ := e
            simp only [quiet, ho, hv, Option.bind_eq_some_iff]
            refine ⟨.fn f caps, hp, ?_⟩
            simp only [Option.bind_eq_some_iff]
            refine ⟨as_, has, ?_⟩
            simp only [callOut, hl.1, Option.bind_some]
            rw [if_neg hout]
        · simp at e
      · simp at e
    · simp at e
  · exact dflt e
theorem quietI_ok {o : Oper} {st : St} {s s' : List El} {m : Made} {l : List Prop} (e : quietI P call o st s = some (m, s', l)) (hl : AllP l) : quiet P call o st = some m := by
  unfold quietI at e
  split at e
  · exact quietX_ok e hl
  · split at e
    · simp only [Option.bind_eq_some_iff] at e
      obtain ⟨⟨m0, s0, l0⟩, h0, e⟩ := e
      split at e
      · rename_i k y hv
        simp only [Option.some.injEq, Prod.mk.injEq] at e
        obtain ⟨rfl, rfl, rfl⟩ := e
        obtain ⟨h1, h2⟩ := hl
        have := quietX_ok h0 h2
        rw [this]
        simp only at hv
        subst h1
        cases m0
        simp only at hv
        subst hv
        rfl
      · simp at e
    · exact quietX_ok e hl
  · exact quietX_ok e hl
theorem quietW_ok {o : Oper} {st : St} {s s' : List El} {m : Made} {l : List Prop} (e : quietW P call o st s = some (m, s', l)) (hl : AllP l) : quiet P call o st = some m := by
  unfold quietW at e
  split at e
  · rename_i d str' r d' t x lo hi hd ho
    split at e
    · split at e
      · rename_i str hx
        simp only [Option.bind_eq_some_iff, Option.some.injEq, Prod.mk.injEq] at e
        obtain ⟨lv, hlv, hv, hhv, rfl, rfl, rfl⟩ := e
        have h1 := hl.1
        simp only [quiet, ho, hx, valOf, Option.bind_some]
        cases lo with
        | none =>
          simp only [optV, Option.some.injEq] at hlv
          subst hlv
          cases hi with
          | none => simp only [optV, Option.some.injEq] at hhv; subst hhv; simp only [mkd]; rw [h1]; rfl
          | some y =>
            simp only [optV, Option.map_eq_some_iff] at hhv
            obtain ⟨w, hw, rfl⟩ := hhv
            simp only [hw, Option.bind_some, mkd]; rw [h1]; rfl
        | some z =>
          simp only [optV, Option.map_eq_some_iff] at hlv
          obtain ⟨w2, hw2, rfl⟩ := hlv
          cases hi with
          | none => simp only [optV, Option.some.injEq] at hhv; subst hhv; simp only [hw2, Option.bind_some, mkd]; rw [h1]; rfl
          | some y =>
            simp only [optV, Option.map_eq_some_iff] at hhv
            obtain ⟨w, hw, rfl⟩ := hhv
            simp only [hw, hw2, Option.bind_some, mkd]; rw [h1]; rfl
      · simp at e
    · exact quietI_ok e hl
  · rename_i d str' r d' src dst x hd ho
    split at e
    · split at e
      · rename_i n cs el hx hs hdst
        split at e
        · rename_i hu
          simp only [Option.some.injEq, Prod.mk.injEq] at e
          obtain ⟨rfl, rfl, rfl⟩ := e
          have h1 := hl.1
          simp only [Option.map_eq_some_iff] at h1
          obtain ⟨bs, hbs, rfl⟩ := h1
          simp only [quiet, ho, hx, hs, hdst, hu, hbs, Option.map_some]
        · simp at e
      · simp at e
    · exact quietI_ok e hl
  · exact quietI_ok e hl
theorem quietV_ok {o : Oper} {st : St} {s s' : List El} {m : Made} {l : List Prop} (e : quietV P call o st s = some (m, s', l)) (hl : AllP l) : quiet P call o st = some m := by
  unfold quietV at e
  split at e
  · split at e
    · simp only [Option.some.injEq, Prod.mk.injEq] at e
      obtain ⟨rfl, rfl, rfl⟩ := e
      exact hl.1
    · exact quietI_ok e hl
  · exact quietW_ok e hl
theorem effectX_ok {o : Oper} {st s : St} {sc sc' : List El} {l : List Prop} (e : effectX P o st sc = some (s, sc', l)) (hl : AllP l) : effect P o st = some s := by
  have dflt : ((effect P o st).map fun m => (m, sc, ([] : List Prop))) = some (s, sc', l) → effect P o st = some s := fun e => by
    simp only [Option.map_eq_some_iff, Prod.mk.injEq] at e
    obtain ⟨q, hq, rfl, _, _⟩ := e
    exact hq
  unfold effectX at e
  split at e
  · rename_i t a x ho
    split at e
    · rename_i u off ha
      split at e
      · rename_i hd
        split at e
        · rename_i sz n cs p hu hp
          split at e
          · rename_i hc
            simp only [Option.some.injEq, Prod.mk.injEq] at e
            obtain ⟨rfl, rfl, rfl⟩ := e
            simp only [effect, ho, if_pos hd, ha, hu, hp]
            rw [if_pos ⟨hc.1, hc.2, hl.1⟩]
          · simp at e
        · simp at e
      · simp at e
    · rename_i k off ha
      split at e
      · rename_i cs' sc1
        split at e
        · rename_i hd
          split at e
          · rename_i u p cs hk hp
            split at e
            · rename_i hc
              simp only [Option.some.injEq, Prod.mk.injEq] at e
              obtain ⟨rfl, rfl, rfl⟩ := e
              obtain ⟨h1, h2, _⟩ := hl
              have hset : st.setBox k off p.cells = some { st with bx := (k, cs') :: drop1 st.bx k, gr := st.gr.filter (fun x => x.1.out k off p.cells.length), tg := st.tg.map (killOut k off p.cells.length) } := by
                simp only [St.setBox, hk, Option.bind_some]
                rw [if_pos h1, h2]
              simp only [effect, ho, if_pos hd, ha, hp]
              rw [if_pos ⟨hc.1, hc.2.1⟩, hset]
              simp only [Option.map_some, Option.some.injEq]
              have hno : lookP (st.gr.filter (fun x => x.1.out k off p.cells.length)) (.s u) = none := by
                rw [lookP_out]
                simp only [Pl.out, if_true]
                simpa using hc.2.2
              rw [hno]
            · simp at e
          · rename_i v p cs hk hp
            split at e
            · rename_i hc
              simp only [Option.some.injEq, Prod.mk.injEq] at e
              obtain ⟨rfl, rfl, rfl⟩ := e
              obtain ⟨h1, h2, _⟩ := hl
              simp only [effect, ho, if_pos hd, ha, hp]
              rw [if_pos ⟨hc.1, hc.2⟩]
              simp only [St.setBox, hk, Option.bind_some]
              rw [if_pos h1, h2]
            · simp at e
          · simp at e
        · simp at e
      · exact dflt e
    · exact dflt e
  · rename_i t ln c ho
    split at e
    · rename_i b sc1
      rw [Option.bind_eq_some_iff] at e
      obtain ⟨d, hd, e⟩ := e
      split at e
      · rename_i el n m hu hn hm
        rw [Option.bind_eq_some_iff] at e
        obtain ⟨sz, hsz, e⟩ := e
        rw [Option.bind_eq_some_iff] at e
        obtain ⟨z, hz, e⟩ := e
        split at e
        · rename_i hc
          split at e
          · simp only [Option.map_eq_some_iff, Prod.mk.injEq] at e
            obtain ⟨s2, hs2, rfl, rfl, rfl⟩ := e
            obtain ⟨⟨h1, h2, h3, h4⟩, h5, h6, _⟩ := hl
            simp only [effect, ho, hd, Option.bind_some, hu, hn, hm, hsz, hz]
            rw [if_pos ⟨h1, h2, h3, h4, hc⟩]
            rw [if_neg (by simpa using h5), h6]; exact hs2
          · simp only [Option.map_eq_some_iff, Prod.mk.injEq] at e
            obtain ⟨s2, hs2, rfl, rfl, rfl⟩ := e
            obtain ⟨⟨h1, h2, h3, h4⟩, h5, _⟩ := hl
            simp only [effect, ho, hd, Option.bind_some, hu, hn, hm, hsz, hz]
            rw [if_pos ⟨h1, h2, h3, h4, hc⟩]
            cases b with
            | true => rw [if_pos (by simpa using h5)]; exact hs2
            | false => rw [if_neg (by simpa using h5)]; exact hs2
        · simp at e
      · simp at e
    · simp at e
  · rename_i args ts ho
    rw [Option.bind_eq_some_iff] at e
    obtain ⟨d, hd, e⟩ := e
    split at e
    · rename_i x y T U ha hts
      split at e
      · rename_i el el' hT hU
        simp only [Option.bind_eq_some_iff] at e
        obtain ⟨sz, hsz, z, hz, p, hp, v, hv, u, ⟨p2, hp2, hu⟩, e⟩ := e
        split at e
        · rename_i hc
          simp only [effect, ho, hd, Option.bind_some, ha, hts, hT, hU, hsz, hz, hp, hv, hp2, hu]
          split at e
          · rename_i v0
            split at e
            · rename_i b sc1
              simp only [Option.some.injEq, Prod.mk.injEq] at e
              obtain ⟨rfl, rfl, rfl⟩ := e
              obtain ⟨⟨h1, h2⟩, ⟨h3, h4⟩, h5, _⟩ := hl
              rw [if_pos ⟨h1, h2, hc.1, hc.2, h3, h4⟩]
              cases b with
              | true => rw [if_pos (by simpa using h5)]; rfl
              | false => rw [if_neg (by simpa using h5)]; rfl
            · simp at e
          · rename_i hnl
            split at e
            · rename_i t
              simp only [Option.map_eq_some_iff] at e
              obtain ⟨q, hq, e⟩ := e
              split at e
              · simp only [Prod.mk.injEq] at e
                obtain ⟨rfl, rfl, rfl⟩ := e
                obtain ⟨⟨⟨h5, h6⟩, ⟨h1, h2⟩, h3, h4⟩, _⟩ := hl
                rw [← h5] at h1 h2
                rw [if_pos ⟨h1, h2, hc.1, hc.2, h3, h4⟩]
                cases p with
                | lit v0 => exact absurd rfl (hnl v0)
                | _ =>
                  exact Option.map_eq_some_iff.2 ⟨q, hq, by rw [h5, h6]⟩
              · simp only [Prod.mk.injEq] at e
                obtain ⟨rfl, rfl, rfl⟩ := e
                obtain ⟨⟨h1, h2⟩, ⟨h3, h4⟩, _⟩ := hl
                rw [if_pos ⟨h1, h2, hc.1, hc.2, h3, h4⟩]
                cases p with
                | lit v0 => exact absurd rfl (hnl v0)
                | _ =>
                  exact Option.map_eq_some_iff.2 ⟨q, hq, rfl⟩
            · simp at e
        · simp at e
      · simp at e
    · simp at e
  · exact dflt e
theorem aopX_ok {o : Oper} {st s : St} {sc sc' : List El} {l : List Prop} (e : aopX P call o st sc = some (s, sc', l)) (hl : AllP l) : aop P call o st = some s := by
  have plain : (if isQuiet o.op = true then (quietV P call o st sc).map fun x => (st.made o.dst x.1, x.2) else effectX P o st sc) = some (s, sc', l) → (if isQuiet o.op = true then (quiet P call o st).map (st.made o.dst) else effect P o st) = some s := fun e => by
    split at e
    · rename_i hq
      rw [if_pos hq]
      simp only [Option.map_eq_some_iff, Prod.mk.injEq] at e ⊢
      obtain ⟨⟨m, sc1, l'⟩, hm, rfl, h2⟩ := e
      simp only [Prod.mk.injEq] at h2
      obtain ⟨rfl, rfl⟩ := h2
      exact ⟨m, quietV_ok hm hl, rfl⟩
    · rename_i hq
      rw [if_neg hq]
      exact effectX_ok e hl
  unfold aopX at e
  unfold aop
  split at e
  · rename_i f vs hc
    rw [hc]
    simp only
    split at e
    · rename_i him
      rw [if_pos him]
      unfold mutCallX at e
      split at e
      · rename_i r cs s1
        simp only [Option.bind_eq_some_iff] at e
        obtain ⟨g, hg, ms, hms, e⟩ := e
        split at e
        · rename_i hok
          simp only [Option.some.injEq, Prod.mk.injEq] at e
          obtain ⟨rfl, rfl, rfl⟩ := e
          simp only [mutCall, hg, hms, Option.bind_some, hl.1]
          rw [if_pos hok]
        · simp at e
      · simp at e
    · rename_i him
      rw [if_neg him]
      split at e
      · rename_i hex
        rw [if_pos hex]
        unfold exCallX at e
        unfold exCall
        split at e
        · rename_i rv s1
          split at e
          · rename_i g args ts ho
            simp only [ho]
            split at e
            · rename_i f' caps hg
              simp only [hg]
              split at e
              · simp at e
              · rename_i hany
                rw [if_neg hany]
                simp only [Option.bind_eq_some_iff] at e ⊢
                obtain ⟨as_, has, d, hd, e⟩ := e
                refine ⟨as_, has, rv, ?_⟩
                split at e
                · rename_i sz n cs z hv hz
                  split at e
                  · rename_i hzs
                    simp only [Option.map_eq_some_iff, Prod.mk.injEq] at e
                    obtain ⟨s2, hs2, rfl, rfl, rfl⟩ := e
                    obtain ⟨h1, h2, _⟩ := hl
                    refine ⟨h1, d, hd, ?_⟩
                    rw [hv, hz]
                    simp only
                    rw [if_pos ⟨hzs, h2⟩]
                    exact hs2
                  · simp at e
                · simp at e
            · simp at e
          · simp at e
        · simp at e
      · rename_i hex
        rw [if_neg hex]
        exact plain e
  · rename_i hc
    rw [hc]
    exact plain e
theorem aopsX_ok {ops : List Oper} : ∀ (l : List Oper) (st s : St) (sc sc' : List El) (ob : List Prop), aopsX P call ops l st sc = some (s, sc', ob) → AllP ob → aops (aop P call) ops l st = some s
  | [], st, s, sc, sc', ob, e, h => by simp only [aopsX, Option.some.injEq, Prod.mk.injEq] at e; simp [aops, e.1]
  | o :: l, st, s, sc, sc', ob, e, h => by
    simp only [aopsX, Option.bind_eq_some_iff] at e
    obtain ⟨b, hw, e⟩ := e
    simp only [aops, Option.bind_eq_some_iff]
    cases b with
    | true =>
      simp only [Option.bind_eq_some_iff, Option.map_eq_some_iff, Prod.mk.injEq] at e
      obtain ⟨⟨s1, sc1, l1⟩, ha, ⟨s2, sc2, l2⟩, hr, rfl, rfl, rfl⟩ := e
      obtain ⟨h2, h3⟩ := h.app
      exact ⟨true, hw, by simp only [Option.bind_eq_some_iff]; exact ⟨s1, aopX_ok ha h2, aopsX_ok l _ _ _ _ _ hr h3⟩⟩
    | false => exact ⟨false, hw, aopsX_ok l _ _ _ _ _ e h⟩
theorem exMadeX_ok {o : Oper} {st : St} {s s' : List El} {m : Made} {l : List Prop} (e : exMadeX call o st s = some (m, s', l)) (hl : AllP l) : exMade call o st = some m := by
  unfold exMadeX at e
  unfold exMade
  split at e
  · rename_i rv s1
    split at e
    · rename_i f args ts ho
      split at e
      · simp at e
      · rename_i hany
        simp only [ho]
        rw [if_neg hany]
        simp only [Option.bind_eq_some_iff] at e ⊢
        obtain ⟨as_, has, e⟩ := e
        split at e
        · rename_i sz n cs z hv hz
          split at e
          · rename_i hzs
            simp only [Option.some.injEq, Prod.mk.injEq] at e
            obtain ⟨rfl, rfl, rfl⟩ := e
            obtain ⟨h1, h2, _⟩ := hl
            refine ⟨as_, has, rv, h1, ?_⟩
            rw [hv, hz]
            simp only
            rw [if_pos ⟨hzs, h2⟩]
          · simp at e
        · simp at e
    · simp at e
  · simp at e
theorem quietDX_ok {o : Oper} {st : St} {s s' : List El} {m : Made} {l : List Prop} (e : quietDX P call o st s = some (m, s', l)) (hl : AllP l) : quietD P call o st = some m := by
  unfold quietDX at e
  split at e
  · rename_i hx
    unfold quietD
    rw [if_pos hx]
    exact exMadeX_ok e hl
  rename_i hxn
  split at e
  · simp only [Option.map_eq_some_iff, Prod.mk.injEq] at e
    obtain ⟨q, hq, rfl, _, _⟩ := e
    exact hq
  · simp only [Option.map_eq_some_iff, Prod.mk.injEq] at e
    obtain ⟨q, hq, rfl, _, _⟩ := e
    exact hq
  · rename_i hn1 hn2
    simp only [Option.bind_eq_some_iff] at e
    obtain ⟨⟨m0, s0, l0⟩, hm, e⟩ := e
    split at e
    · simp at e
    · rename_i hx
      simp only [Option.some.injEq, Prod.mk.injEq] at e
      obtain ⟨rfl, rfl, rfl⟩ := e
      have := quietV_ok hm hl
      unfold quietD
      rw [if_neg hxn]
      split
      · rename_i ho; exact absurd ho (hn1 _)
      · rename_i ho; exact absurd ho (hn2 _)
      · simp only [Option.bind_eq_some_iff]
        exact ⟨m0, this, by rw [if_neg hx]⟩
theorem aopsDX_ok {ops : List Oper} : ∀ (l : List Oper) (st s : St) (sc sc' : List El) (ob : List Prop), aopsDX P call ops l st sc = some (s, sc', ob) → AllP ob → aopsD P call ops l st = some s
  | [], st, s, sc, sc', ob, e, h => by simp only [aopsDX, Option.some.injEq, Prod.mk.injEq] at e; simp [aopsD, e.1]
  | o :: l, st, s, sc, sc', ob, e, h => by
    simp only [aopsDX, Option.bind_eq_some_iff] at e
    obtain ⟨b, hw, e⟩ := e
    simp only [aopsD, Option.bind_eq_some_iff]
    cases b with
    | true =>
      simp only [Option.bind_eq_some_iff, Option.map_eq_some_iff, Prod.mk.injEq] at e
      obtain ⟨⟨s1, sc1, l1⟩, ha, ⟨s2, sc2, l2⟩, hr, rfl, rfl, rfl⟩ := e
      obtain ⟨h2, h3⟩ := h.app
      exact ⟨true, hw, by simp only [Option.bind_eq_some_iff]; exact ⟨s1, quietDX_ok ha h2, aopsDX_ok l _ _ _ _ _ hr h3⟩⟩
    | false => exact ⟨false, hw, aopsDX_ok l _ _ _ _ _ e h⟩
theorem aregionX_ok {ops : List Oper} {dr : Bool} {st s : St} {sc sc' : List El} {ob : List Prop} (e : aregionX P call ops dr st sc = some (s, sc', ob)) (h : AllP ob) : aregion P call ops dr st = some s := by
  unfold aregionX at e
  unfold aregion
  cases dr with
  | false => simp only [Bool.false_eq_true, if_false] at e ⊢; exact aopsX_ok _ _ _ _ _ _ e h
  | true =>
    simp only [if_true] at e ⊢
    split at e
    · rename_i hf
      rw [if_pos hf]
      simp only [Option.bind_eq_some_iff, Option.map_eq_some_iff, Prod.mk.injEq] at e ⊢
      obtain ⟨⟨s1, sc1, l1⟩, h1, s2, h2, ⟨s3, sc3, l3⟩, h3, rfl, rfl, rfl⟩ := e
      obtain ⟨k1, k3⟩ := h.app
      exact ⟨s1, aopsDX_ok _ _ _ _ _ _ h1 k1, s2, h2, aopsX_ok _ _ _ _ _ _ h3 k3⟩
    · simp at e
theorem loopX_ok {f : St → Option (Xt × St)} {g : St → List El → Option (Ow (Xt × St))} (hf : ∀ st s x s' ob, g st s = some (x, s', ob) → AllP ob → f st = some x) :
    ∀ (n k : Nat) (st : St) (s : List El) (x : Xt × St) (s' : List El) (ob : List Prop), n ≤ k → loopX g n st s = some (x, s', ob) → AllP ob → loopN f k st = some x
  | 0, k, st, s, x, s', ob, hk, e, h => by simp [loopX] at e
  | n + 1, 0, st, s, x, s', ob, hk, e, h => by omega
  | n + 1, k + 1, st, s, x, s', ob, hk, e, h => by
    simp only [loopX, Option.bind_eq_some_iff] at e
    obtain ⟨⟨⟨y, st1⟩, s1, l1⟩, h1, e⟩ := e
    simp only [loopN, Option.bind_eq_some_iff]
    cases y with
    | normal =>
      simp only [Option.map_eq_some_iff, Prod.mk.injEq] at e
      obtain ⟨⟨x2, s2, l2⟩, h2, rfl, rfl, rfl⟩ := e
      obtain ⟨k1, k2⟩ := h.app
      exact ⟨(.normal, st1), hf _ _ _ _ _ h1 k1, loopX_ok hf n k _ _ _ _ _ (by omega) h2 k2⟩
    | exit id =>
      simp only [Option.some.injEq, Prod.mk.injEq] at e
      obtain ⟨rfl, rfl, rfl⟩ := e
      exact ⟨(.exit id, st1), hf _ _ _ _ _ h1 h, rfl⟩
    | ret =>
      simp only [Option.some.injEq, Prod.mk.injEq] at e
      obtain ⟨rfl, rfl, rfl⟩ := e
      exact ⟨(.ret, st1), hf _ _ _ _ _ h1 h, rfl⟩
theorem aroundsX_ok {fa fb : St → Option (Xt × St)} {ga gb : St → List El → Option (Ow (Xt × St))} (ha : ∀ st s x s' ob, ga st s = some (x, s', ob) → AllP ob → fa st = some x) (hb : ∀ st s x s' ob, gb st s = some (x, s', ob) → AllP ob → fb st = some x) {st1 : St} {ps : List Nat} :
    ∀ (xs : List (List PV)) (cur : St) (s : List El) (x : Xt × St) (s' : List El) (ob : List Prop), aroundsX ga gb st1 ps xs cur s = some (x, s', ob) → AllP ob → arounds fa fb st1 ps xs cur = some x
  | [], cur, s, x, s', ob, e, h => by simp only [aroundsX, Option.some.injEq, Prod.mk.injEq] at e; simp [arounds, e.1]
  | y :: xs, cur, s, x, s', ob, e, h => by
    simp only [aroundsX, Option.bind_eq_some_iff] at e
    obtain ⟨⟨⟨t, sa⟩, s1, l1⟩, h1, e⟩ := e
    simp only [arounds, Option.bind_eq_some_iff]
    cases t with
    | exit id => simp at e
    | ret => simp at e
    | normal =>
      simp only [Option.bind_eq_some_iff] at e
      obtain ⟨⟨⟨t2, sb⟩, s2, l2⟩, h2, e⟩ := e
      cases t2 with
      | normal =>
        simp only [Option.map_eq_some_iff, Prod.mk.injEq] at e
        obtain ⟨⟨x3, s3, l3⟩, h3, rfl, rfl, rfl⟩ := e
        obtain ⟨k1, k23⟩ := h.app
        obtain ⟨k2, k3⟩ := k23.app
        refine ⟨(.normal, sa), ha _ _ _ _ _ h1 k1, ?_⟩
        simp only [Option.bind_eq_some_iff]
        exact ⟨(.normal, sb), hb _ _ _ _ _ h2 k2, aroundsX_ok ha hb xs _ _ _ _ _ h3 k3⟩
      | exit id =>
        simp only [Option.some.injEq, Prod.mk.injEq] at e
        obtain ⟨rfl, rfl, rfl⟩ := e
        obtain ⟨k1, k2⟩ := h.app
        refine ⟨(.normal, sa), ha _ _ _ _ _ h1 k1, ?_⟩
        simp only [Option.bind_eq_some_iff]
        exact ⟨(.exit id, sb), hb _ _ _ _ _ h2 k2, rfl⟩
      | ret =>
        simp only [Option.some.injEq, Prod.mk.injEq] at e
        obtain ⟨rfl, rfl, rfl⟩ := e
        obtain ⟨k1, k2⟩ := h.app
        refine ⟨(.normal, sa), ha _ _ _ _ _ h1 k1, ?_⟩
        simp only [Option.bind_eq_some_iff]
        exact ⟨(.ret, sb), hb _ _ _ _ _ h2 k2, rfl⟩
theorem arunX_ok : ∀ (c : Code) (st : St) (p : List El) (x : Xt × St) (p' : List El) (ob : List Prop), arunX P call it k note c st p = some (x, p', ob) → AllP ob → arun P call it (fun g => loopN g k) note c st = some x
  | .skip, st, p, x, p', ob, e, h => by simp only [arunX, Option.some.injEq, Prod.mk.injEq] at e; simp [arun, e.1]
  | .region id ops dr, st, p, x, p', ob, e, h => by
    simp only [arunX, Option.map_eq_some_iff, Prod.mk.injEq] at e
    obtain ⟨⟨s, p1, l⟩, hs, rfl, h2⟩ := e
    obtain ⟨rfl, rfl⟩ := h2
    obtain ⟨k1, k2⟩ := h.app
    simp only [arun, Option.map_eq_some_iff]
    rw [← stillX_ok k1]
    exact ⟨s, aregionX_ok hs k2, rfl⟩
  | .seq a b, st, p, x, p', ob, e, h => by
    simp only [arunX, Option.bind_eq_some_iff] at e
    obtain ⟨⟨⟨y, s⟩, p1, l1⟩, h1, e⟩ := e
    simp only [arun, Option.bind_eq_some_iff]
    cases y with
    | normal =>
      simp only [Option.map_eq_some_iff, Prod.mk.injEq] at e
      obtain ⟨⟨x2, p2, l2⟩, h2, rfl, rfl, rfl⟩ := e
      obtain ⟨k1, k2⟩ := h.app
      exact ⟨(.normal, s), arunX_ok a _ _ _ _ _ h1 k1, arunX_ok b _ _ _ _ _ h2 k2⟩
    | exit id =>
      simp only [Option.some.injEq, Prod.mk.injEq] at e
      obtain ⟨rfl, rfl, rfl⟩ := e
      exact ⟨(.exit id, s), arunX_ok a _ _ _ _ _ h1 h, rfl⟩
    | ret =>
      simp only [Option.some.injEq, Prod.mk.injEq] at e
      obtain ⟨rfl, rfl, rfl⟩ := e
      exact ⟨(.ret, s), arunX_ok a _ _ _ _ _ h1 h, rfl⟩
  | .cond c t el, st, p, x, p', ob, e, h => by
    simp only [arunX, Option.bind_eq_some_iff] at e
    obtain ⟨v, hv, e⟩ := e
    simp only [arun, Option.bind_eq_some_iff]
    refine ⟨v, hv, ?_⟩
    split at e
    · exact arunX_ok t _ _ _ _ _ e h
    · exact arunX_ok el _ _ _ _ _ e h
    · simp at e
  | .block id c, st, p, x, p', ob, e, h => by
    simp only [arunX, Option.map_eq_some_iff] at e
    obtain ⟨⟨⟨y, s⟩, p1, l1⟩, h1, e⟩ := e
    simp only [arun, Option.map_eq_some_iff]
    cases y with
    | normal =>
      simp only [Prod.mk.injEq] at e
      obtain ⟨rfl, rfl, rfl⟩ := e
      exact ⟨_, arunX_ok c _ _ _ _ _ h1 h, rfl⟩
    | ret =>
      simp only [Prod.mk.injEq] at e
      obtain ⟨rfl, rfl, rfl⟩ := e
      exact ⟨_, arunX_ok c _ _ _ _ _ h1 h, rfl⟩
    | exit j =>
      simp only at e
      split at e
      · rename_i hj
        simp only [Prod.mk.injEq] at e
        obtain ⟨rfl, rfl, rfl⟩ := e
        exact ⟨_, arunX_ok c _ _ _ _ _ h1 h, by simp only; rw [if_pos hj]⟩
      · rename_i hj
        simp only [Prod.mk.injEq] at e
        obtain ⟨rfl, rfl, rfl⟩ := e
        exact ⟨_, arunX_ok c _ _ _ _ _ h1 h, by simp only; rw [if_neg hj]⟩
  | .loop c, st, p, x, p', ob, e, h => by
    simp only [arunX] at e
    split at e
    · simp only [Option.some.injEq, Prod.mk.injEq] at e
      obtain ⟨rfl, rfl, rfl⟩ := e
      exact h.1
    · rename_i n s1
      simp only [Option.map_eq_some_iff, Prod.mk.injEq] at e
      obtain ⟨⟨x2, s2, l2⟩, h2, rfl, rfl, rfl⟩ := e
      exact loopX_ok (f := arun P call it (fun g => loopN g k) note c) (fun st s x s' ob e h => arunX_ok c st s x s' ob e h) n k _ _ _ _ _ h.1 h2 h.2
    · simp at e
  | .rangeFunc g ps asg body, st, p, x, p', ob, e, h => by
    simp only [arunX, Option.bind_eq_some_iff] at e
    obtain ⟨q, hq, e⟩ := e
    simp only [arun, Option.bind_eq_some_iff]
    refine ⟨q, hq, ?_⟩
    split at e
    · simp only [Option.bind_eq_some_iff] at e ⊢
      obtain ⟨y, hy, e⟩ := e
      refine ⟨y, hy, ?_⟩
      split at e
      · rename_i hn
        rw [if_pos hn]
        exact aroundsX_ok (fun st s x s' ob e h => arunX_ok asg st s x s' ob e h) (fun st s x s' ob e h => arunX_ok body st s x s' ob e h) _ _ _ _ _ _ e h
      · simp at e
    · simp at e
  | .exit id, st, p, x, p', ob, e, h => by simp only [arunX, Option.some.injEq, Prod.mk.injEq] at e; simp [arun, e.1]
  | .ret, st, p, x, p', ob, e, h => by simp only [arunX, Option.some.injEq, Prod.mk.injEq] at e; simp [arun, e.1]
  | .label _, _, _, _, _, _, e, _ => by simp [arunX] at e
  | .goto _, _, _, _, _, _, e, _ => by simp [arunX] at e
  | .scope _, _, _, _, _, _, e, _ => by simp [arunX] at e
theorem ambodyX_ok {fn : Func} {ms : List MA} {p : List El} {r : MR × List PV} {ob : List Prop} (e : ambodyX P call it k note fn ms p = some (r, ob)) (h : AllP ob) : ambody P call it (fun g => loopN g k) note fn ms = some r := by
  simp only [ambodyX, Option.bind_eq_some_iff] at e
  obtain ⟨c, hc, e⟩ := e
  simp only [ambody, Option.bind_eq_some_iff]
  refine ⟨c, hc, ?_⟩
  split at e
  · rename_i hfl
    rw [if_pos hfl]
    simp only [Option.bind_eq_some_iff] at e ⊢
    obtain ⟨⟨⟨y, s⟩, p1, l1⟩, h1, e⟩ := e
    have fin : ((mres s (guestSz ms) fn.results.toList).bind fun r => (look s.bx gk).bind fun cs' => (guestCells ms).map fun cs => ((r, cs'), (cs'.all litP' = true) :: (cs'.length = cs.length) :: l1)) = some (r, ob) →
        AllP l1 ∧ ((mres s (guestSz ms) fn.results.toList).bind fun r => (look s.bx gk).bind fun cs' => (guestCells ms).bind fun cs => if cs'.all litP' = true ∧ cs'.length = cs.length then some (r, cs') else none) = some r := fun e => by
      simp only [Option.bind_eq_some_iff, Option.map_eq_some_iff, Prod.mk.injEq] at e
      obtain ⟨r1, hr, cs', hcs', cs, hcs, rfl, rfl⟩ := e
      obtain ⟨a1, a2, a3⟩ := h
      refine ⟨a3, ?_⟩
      simp only [hr, hcs', hcs, Option.bind_some]
      rw [if_pos ⟨a1, a2⟩]
    refine ⟨(y, s), ?_, ?_⟩
    · refine arunX_ok c _ _ _ _ _ h1 ?_
      cases y <;> cases p1 <;> simp only [reduceCtorEq] at e
      all_goals (exact (fin e).1)
    · cases y <;> cases p1 <;> simp only [reduceCtorEq] at e
      all_goals (exact (fin e).2)
  · simp at e
theorem endX_ok {rs : List ResultVar} {st : St} {sc : List El} {r : RV} {ob : List Prop} (e : endX P rs st sc = some (r, ob)) (h : AllP ob) : aresults P st rs = some r := by
  unfold endX at e
  split at e
  · simp only [Option.map_eq_some_iff, Prod.mk.injEq] at e
    obtain ⟨_, h1, rfl, _⟩ := e
    exact h1
  · rename_i cs' t
    split at e
    · simp only [Option.map_eq_some_iff, Prod.mk.injEq] at e
      obtain ⟨_, h1, rfl, rfl⟩ := e
      rw [still1X_ok h] at h1
      exact h1
    · simp at e
  · simp at e
theorem abodyX_ok {fn : Func} {args : List PV} {p : List El} {r : RV} {ob : List Prop} (e : abodyX P call it k note fn args p = some (r, ob)) (h : AllP ob) : abody P call it (fun g => loopN g k) note fn args = some r := by
  simp only [abodyX, Option.bind_eq_some_iff] at e
  obtain ⟨c, hc, ⟨⟨y, s⟩, p1, l1⟩, h1, e⟩ := e
  simp only [abody, Option.bind_eq_some_iff]
  refine ⟨c, hc, (y, s), ?_⟩
  cases y with
  | exit j => simp at e
  | normal =>
    simp only [Option.map_eq_some_iff, Prod.mk.injEq] at e
    obtain ⟨⟨r', l2⟩, h2, rfl, rfl⟩ := e
    exact ⟨arunX_ok c _ _ _ _ _ h1 h.app.1, endX_ok h2 h.app.2⟩
  | ret =>
    simp only [Option.map_eq_some_iff, Prod.mk.injEq] at e
    obtain ⟨⟨r', l2⟩, h2, rfl, rfl⟩ := e
    exact ⟨arunX_ok c _ _ _ _ _ h1 h.app.1, endX_ok h2 h.app.2⟩
end
end Go.Proofs.YtibbgjafjhcemaaDoor.Cul
/-! M27 -/
set_option linter.unusedVariables false
set_option linter.unusedSimpArgs false
namespace Go.Proofs.YtibbgjafjhcemaaDoor.Cul
open Go Go.RowKit
/-- Tables of answers. -/
def tab : List (Nat × (List PV → Option RV)) → Nat → List PV → Option RV
  | [], _, _ => none
  | (f, g) :: l, x, args => if f = x then g args else tab l x args
def tabM : List (Nat × (List MA → Option (MR × List PV))) → Nat → List MA → Option (MR × List PV)
  | [], _, _ => none
  | (f, g) :: l, x, ms => if f = x then g ms else tabM l x ms
/-- What is known of the callees: by tables; whose answers become own arrays; who writes into arrays. -/
def tabC (l : List (Nat × (List PV → Option RV))) (ml : List (Nat × (List MA → Option (MR × List PV)))) (ex : List (Nat × Nat)) : Cl := { fn := tab l, mu := tabM ml, ex := fun f d => ex.contains (f, d), im := fun f => (ml.map (·.1)).contains f }
abbrev tabF (l : List (Nat × (List PV → Option RV))) : Cl := tabC l [] []
def FnsOk (P : Program) (l : List (Nat × (List PV → Option RV))) : Prop := ∀ f args r, tab l f args = some r → CallIs P f args r
def MusOk (P : Program) (l : List (Nat × (List MA → Option (MR × List PV)))) : Prop := ∀ f ms r cs', tabM l f ms = some (r, cs') → MutIs P f ms r cs'
theorem fns_nil {P : Program} : FnsOk P [] := fun f args r h => by simp [tab] at h
theorem fns_cons {P : Program} {f : Nat} {g : List PV → Option RV} {l : List (Nat × (List PV → Option RV))} (h : ∀ args r, g args = some r → CallIs P f args r) (hl : FnsOk P l) : FnsOk P ((f, g) :: l) := by
  intro x args r e
  simp only [tab] at e
  split at e
  · rename_i hf; exact hf ▸ h args r e
  · exact hl x args r e
theorem mus_nil {P : Program} : MusOk P [] := fun f ms r cs' h => by simp [tabM] at h
theorem mus_cons {P : Program} {f : Nat} {g : List MA → Option (MR × List PV)} {l : List (Nat × (List MA → Option (MR × List PV)))} (h : ∀ ms r cs', g ms = some (r, cs') → MutIs P f ms r cs') (hl : MusOk P l) : MusOk P ((f, g) :: l) := by
  intro x ms r cs' e
  simp only [tabM] at e
  split at e
  · rename_i hf; exact hf ▸ h ms r cs' e
  · exact hl x ms r cs' e
theorem tabC_ok {P : Program} {l : List (Nat × (List PV → Option RV))} {ml : List (Nat × (List MA → Option (MR × List PV)))} {ex : List (Nat × Nat)} (h : FnsOk P l) (hm : MusOk P ml) : CallOk P (tabC l ml ex) := ⟨h, hm⟩
theorem tabF_ok {P : Program} {l : List (Nat × (List PV → Option RV))} (h : FnsOk P l) : CallOk P (tabF l) := ⟨h, mus_nil⟩
end Go.Proofs.YtibbgjafjhcemaaDoor.Cul
/-! M28 -/
set_option linter.unusedVariables false
set_option linter.unusedSimpArgs false
namespace Go.Proofs.YtibbgjafjhcemaaDoor.Cul
open Go Go.RowKit
/-! ### Iterators: a function that calls yield -/
/-- A value that leads nowhere. -/
def litP : PV → Bool
  | .lit v => scal v
  | _ => false
def plainP : PV → Bool
  | .ag cs => cs.all litP
  | p => litP p
def plainV : PV → Value
  | .lit v => v
  | .ag cs => .agg ((cs.map fun | .lit v => v | _ => undef).toArray)
  | _ => undef
theorem litP_rp {w : World} {Pr : Prot} : ∀ {cs : List PV}, cs.all litP = true → RpL w Pr cs (cs.map fun | .lit v => v | _ => undef) ∧ One (cs.map fun | .lit v => v | _ => undef)
  | [], _ => ⟨.nil, fun v h => by simp at h⟩
  | p :: cs, h => by
    simp only [List.all_cons, Bool.and_eq_true] at h
    obtain ⟨h1, h2⟩ := litP_rp h.2
    cases p with
    | lit v =>
      have hs : scal v = true := h.1
      refine ⟨.cons (.lit hs) h1, fun u hu => ?_⟩
      simp only [List.map_cons, List.mem_cons] at hu
      rcases hu with rfl | hu
      · cases u <;> simp_all [scal, Value.oneCell']
      · exact h2 u hu
    | _ => simp [litP] at h
theorem plainP_rp {w : World} {Pr : Prot} {p : PV} (h : plainP p = true) : Rp w Pr p (plainV p) := by
  cases p with
  | lit v => exact .lit h
  | ag cs => obtain ⟨h1, h2⟩ := litP_rp (w := w) (Pr := Pr) (cs := cs) h; exact .ag h1 h2
  | _ => simp [plainP, litP] at h
theorem litP_eq {w : World} {Pr : Prot} : ∀ {cs : List PV} {vs : List Value}, cs.all litP = true → RpL w Pr cs vs → vs = (cs.map fun | .lit v => v | _ => undef)
  | _, _, _, .nil => rfl
  | _, _, h, .cons h1 hs => by
    simp only [List.all_cons, Bool.and_eq_true] at h
    rw [litP_eq h.2 hs]
    cases h1 with
    | lit _ => rfl
    | _ => simp [litP] at h
theorem plainP_eq {w : World} {Pr : Prot} {p : PV} {v : Value} (h : plainP p = true) (k : Rp w Pr p v) : v = plainV p := by
  cases k with
  | lit _ => rfl
  | ag hr h1 => simp only [plainV]; rw [litP_eq h hr]
  | _ => simp [plainP, litP] at h
theorem plainP_all {w : World} {Pr : Prot} : ∀ {ps : List PV} {vs : List Value}, ps.all plainP = true → RpL w Pr ps vs → vs = ps.map plainV
  | _, _, _, .nil => rfl
  | _, _, h, .cons h1 hs => by
    simp only [List.all_cons, Bool.and_eq_true] at h
    rw [plainP_all h.2 hs, plainP_eq h.1 h1]; rfl
theorem plainP_rps {w : World} {Pr : Prot} : ∀ {ps : List PV}, ps.all plainP = true → RpL w Pr ps (ps.map plainV)
  | [], _ => .nil
  | p :: ps, h => by
    simp only [List.all_cons, Bool.and_eq_true] at h
    exact .cons (plainP_rp h.1) (plainP_rps h.2)
/-- Behind a call of yield that goes on. -/
def backV : AV → AV
  | .pv p => .pv p
  | _ => .dead
/-- Behind a call of yield that stops. -/
def goneV : AV → AV
  | .pv p => if plainP p then .pv p else .dead
  | _ => .dead
def St.only (f : AV → AV) (st : St) : St := { sl := st.sl.map fun x => (x.1, f x.2), bx := [], gr := [], tg := [] }
/-- The arguments of a call of yield. -/
def yieldArgs (o : Oper) (st : St) : Option (Nat × List PV) :=
  match o.op with
  | .call { callee := .value g, args, .. } => match st.ev g with
    | some (.pv (.lit (.func (.yield j) _ _))) => if args.toList.any (fun x => ((st.ev x).map leadsOut).getD true) then none else (argsOf st args.toList).map (j, ·)
    | _ => none
  | _ => none
section
variable (P : Program) (call : Cl) (note : Nat → Note) (yr : Nat → Bool) (l : Nat) (xs : Nat → List PV) (N : Nat) (fuel : Nat)
def yOps (ops : List Oper) : List Oper → St → Option Nat → (St → Option Nat → Prop) → Prop
  | [], st, k, K => K st k
  | o :: r, st, k, K => match aWanted ops o st with
    | some true => match yieldArgs o st with
      | some (j, as_) => match k with
        | some i => j = l ∧ i < N ∧ as_ = xs i ∧ yOps ops r ((st.only backV).put o.dst (.pv (.lit (.bool true)))) (some (i + 1)) K ∧ yOps ops r ((st.only goneV).put o.dst (.pv (.lit (.bool false)))) none K
        | none => False
      | none => match aop P call o st with
        | some s => yOps ops r s k K
        | none => False
    | some false => yOps ops r (st.put o.dst undefA) k K
    | none => False
abbrev YT := (Xt → St → Option Nat → Prop) → Prop
def yLoop (f : St → Option Nat → YT) (Q : Xt → St → Option Nat → Prop) : Nat → St → Option Nat → Prop
  | 0, _, _ => False
  | n + 1, st, k => f st k fun x s k' => match x with
    | .normal => yLoop f Q n s k'
    | x => Q x s k'
/-- A run that tells what it yields. -/
def ywp : Code → St → Option Nat → YT
  | .skip, st, k, Q => Q .normal st k
  | .region id ops dr, st, k, Q => if yr id then dr = false ∧ yOps P call l xs N ops.toList ops.toList ((note id).still.foldl St.cold1 st) k (fun s k' => Q .normal (s.keepOnly (note id).keep) k')
    else match aregion P call ops.toList dr ((note id).still.foldl St.cold1 st) with
      | some s => Q .normal (s.keepOnly (note id).keep) k
      | none => False
  | .seq a b, st, k, Q => ywp a st k fun x s k' => match x with
    | .normal => ywp b s k' Q
    | x => Q x s k'
  | .cond c t e, st, k, Q => match st.val c with
    | some (.bool true) => ywp t st k Q
    | some (.bool false) => ywp e st k Q
    | _ => False
  | .block id c, st, k, Q => ywp c st k fun x s k' => match x with
    | .exit j => if j = id then Q .normal s k' else Q (.exit j) s k'
    | x => Q x s k'
  | .loop c, st, k, Q => yLoop (ywp c) Q fuel st k
  | .exit id, st, k, Q => Q (.exit id) st k
  | .ret, st, k, Q => Q .ret st k
  | _, _, _, _ => False
end
section
variable {P : Program} {call : Cl} {note : Nat → Note} {yr : Nat → Bool} {l : Nat} {xs : Nat → List PV} {N fuel : Nat} {n : Nat} {M : Nat} {J : Nat → Prot → World → Prop} {Jx : World → Prop}
def pin0 : Pins := ⟨fun _ => none, some []⟩
/-- The iterator's frame between two rounds. -/
def YG (J : Nat → Prot → World → Prop) (Jx : World → Prop) (M : Nat) (k : Option Nat) (st : St) (a : Act) (W : World) : Prop :=
  match k with
  | some i => ∃ A Pi, J i Pi A ∧ A.grownBy W none ∧ (∀ b o, Pi b o → ∃ v, A.cell? ⟨b, o, none⟩ = some v) ∧ Good A.heap.size A Pi M pin0 st a W
  | none => ∃ A Pi, Jx A ∧ A.grownBy W none ∧ Good A.heap.size A Pi M pin0 st a W
theorem grownBy_of_below {A W W' : World} (hg : A.grownBy W none) (h : Below A.heap.size A W') : A.grownBy W' none := ⟨h.os, h.tape, h.output, h.size, fun k hk _ => h.block k hk⟩
theorem Good.below {base : Nat} {w0 : World} {Pr0 : Prot} {st : St} {a : Act} {w : World} {pin : Pins} (G : Good base w0 Pr0 M pin st a w) : Below base w0 w := by
  obtain ⟨_, _, _, h, _⟩ := G; exact h
/-- A step of the machine. -/
theorem YG.step {k : Option Nat} {st st' : St} {a : Act} {W : World} {c : Code} {R : Exit → Act → World → Prop} {x : Exit} (G : YG J Jx M k st a W)
    (h : ∀ A Pi, Good A.heap.size A Pi M pin0 st a W → ∀ R : Exit → Act → World → Prop, (∀ a' W', Good A.heap.size A Pi M pin0 st' a' W' → R x a' W') → c.wpIn Fence.wide n P R a W)
    (hR : ∀ a' W', YG J Jx M k st' a' W' → R x a' W') : c.wpIn Fence.wide n P R a W := by
  cases k with
  | some i =>
    obtain ⟨A, Pi, h1, h2, h3, h4⟩ := G
    exact h A Pi h4 R fun a' W' G' => hR a' W' ⟨A, Pi, h1, grownBy_of_below h2 G'.below, h3, G'⟩
  | none =>
    obtain ⟨A, Pi, h1, h2, h4⟩ := G
    exact h A Pi h4 R fun a' W' G' => hR a' W' ⟨A, Pi, h1, grownBy_of_below h2 G'.below, G'⟩
theorem YG.less {k : Option Nat} {st st' : St} {a : Act} {W : World} (G : YG J Jx M k st a W) (h : ∀ base w0 Pr0, Good base w0 Pr0 M pin0 st a W → Good base w0 Pr0 M pin0 st' a W) : YG J Jx M k st' a W := by
  cases k with
  | some i => obtain ⟨A, Pi, h1, h2, h3, h4⟩ := G; exact ⟨A, Pi, h1, h2, h3, h _ _ _ h4⟩
  | none => obtain ⟨A, Pi, h1, h2, h4⟩ := G; exact ⟨A, Pi, h1, h2, h _ _ _ h4⟩
theorem YG.any {k : Option Nat} {st : St} {a : Act} {W : World} (G : YG J Jx M k st a W) : ∃ base w0 Pr0, Good base w0 Pr0 M pin0 st a W := by
  cases k with
  | some i => obtain ⟨A, Pi, h1, h2, h3, h4⟩ := G; exact ⟨_, _, _, h4⟩
  | none => obtain ⟨A, Pi, h1, h2, h4⟩ := G; exact ⟨_, _, _, h4⟩
/-- A frame of values alone, in whatever memory. -/
theorem good_pure {W : World} {Pi : Prot} {st : St} {a : Act} (hp : ∀ b o, Pi b o → b < W.heap.size) (hsz : a.tmps.size = M) (hd : a.defers = []) (hbx : st.bx = []) (hgr : st.gr = []) (htg : st.tg = [])
    (h : ∀ t av, look st.sl t = some av → ∃ v, a.tmps[t]? = some v ∧ (av = .dead ∨ ∃ p, av = .pv p ∧ Rp W Pi p v)) : Good W.heap.size W Pi M pin0 st a W := by
  have hnl : ∀ x, ¬ live st x := by
    intro x hx
    cases x with
    | bx k => obtain ⟨cs, h1⟩ := hx; rw [hbx] at h1; simp [look] at h1
    | sx t =>
      rcases hx with ⟨sz, n, cs, h1⟩ | ⟨z, h1⟩
      · obtain ⟨v, _, h2 | ⟨p, h2, _⟩⟩ := h t _ h1 <;> simp at h2
      · rw [hgr] at h1; simp [lookP] at h1
    | cx k o => obtain ⟨z, h1⟩ := hx; rw [hgr] at h1; simp [lookP] at h1
  refine ⟨Pi, fun _ => 0, ?_, Below.refl _ _, fun _ _ _ h => h, KO.refl _, fun k b e => by simp [pin0] at e, fun _ _ _ h1 h2 => ⟨h1, h2⟩, fun ds e => by simp only [pin0, Option.some.injEq] at e; rw [hd, e]⟩
  constructor
  · exact hsz
  · rw [hd]; exact ⟨by simp, List.nodup_nil⟩
  · exact Nat.le_refl _
  · exact hp
  · intro t av ht
    obtain ⟨v, hv, h2⟩ := h t av ht
    refine ⟨v, hv, ?_⟩
    rcases h2 with rfl | ⟨p, rfl, hr⟩
    · trivial
    · exact hr
  · exact fun x hx => absurd hx (hnl x)
  · exact fun x _ hx => absurd hx (hnl x)
  · intro k cs h1; rw [hbx] at h1; simp [look] at h1
  · intro t z h1; rw [hgr] at h1; simp [lookP] at h1
  · intro k i z h1; rw [hgr] at h1; simp [lookP] at h1
  · intro t q h1; rw [htg] at h1; simp [look] at h1
theorem look_only (f : AV → AV) (st : St) (t : Nat) : look (st.only f).sl t = (look st.sl t).map f := look_map (fun x => (x.1, f x.2)) (fun _ v => f v) (fun _ => rfl) st.sl t
theorem oper_yield {o : Oper} {a : Act} {W : World} {K : Act → World → Prop} {Q : Exit → Act → World → Prop} {g : Operand} {args : Array Operand} {ts : Array TypeId} {fi ca : Array Value} {R : Ending → World → Prop}
    (ho : o.op = .call { callee := .value g, args := args, argTypes := ts }) (hg : a.eval g = .func (.yield l) fi ca) (hf : fi = #[]) (hy : YieldAt Fence.wide (n - 1) P l (args.map a.eval) W R)
    (hR : ∀ e W', R e W' → ∃ v, e = .returned v ∧ K (a.put o.dst v) W') : o.wpIn Fence.wide n P a W K Q := by
  refine ⟨fun f _ => trivial, ?_⟩
  rw [Oper.semAt_plain Fence.wide _ _ (fun c h => by rw [ho] at h; simp at h)]
  obtain ⟨fn, tmps, assign, body, h1, h2⟩ := hy
  have : (execOp a.eval o).run P W = .ok (.round l fn tmps assign body) W := by
    subst hf
    simp [execOp, ho, resolve, hg, Deferred.ofValue, invoke, h1]
  rw [this, Oper.uponIn_round]
  refine ⟨fun h => by simp [Fence.wide] at h, h2.mono fun e W' h => ?_⟩
  obtain ⟨v, rfl, hk⟩ := hR e W' h
  exact hk
end
end Go.Proofs.YtibbgjafjhcemaaDoor.Cul
/-! M29 -/
set_option linter.unusedVariables false
set_option linter.unusedSimpArgs false
namespace Go.Proofs.YtibbgjafjhcemaaDoor.Cul
open Go Go.RowKit
section
variable {P : Program} {call : Cl} {note : Nat → Note} {yr : Nat → Bool} {l : Nat} {xs : Nat → List PV} {N fuel : Nat} {n : Nat} {M : Nat} {J : Nat → Prot → World → Prop} {Jx : World → Prop}
/-- What the rounds owe the iterator. -/
structure YP (P : Program) (n l N : Nat) (xs : Nat → List PV) (J : Nat → Prot → World → Prop) (Jx : World → Prop) : Prop where
  grow : ∀ k Pi A B, J k Pi A → A.grownBy B none → J k (Pi.plus A B) B
  growx : ∀ A B, Jx A → A.grownBy B none → Jx B
  plain : ∀ k, k < N → (xs k).all plainP = true
  round : ∀ k Pi W1, J k Pi W1 → k < N → YieldAt Fence.wide (n - 1) P l ((xs k).map plainV).toArray W1 fun e W' => (e = .returned (.bool true) ∧ J (k + 1) Pi W' ∧ Keeps Pi W1 W' ∧ W1.heap.size ≤ W'.heap.size) ∨ (e = .returned (.bool false) ∧ Jx W')
theorem put_tmps {a : Act} {d : Option Tmp} {v : Value} : (a.put d v).defers = a.defers := by cases d <;> rfl
theorem good_put {W : World} {Pi : Prot} {st : St} {a : Act} {d : Option Tmp} {b : Bool} (hN : ∀ t, d = some t → t < M) (hp : ∀ b o, Pi b o → b < W.heap.size) (hsz : a.tmps.size = M) (hd : a.defers = []) (f : AV → AV)
    (h : ∀ t av, look (st.only f).sl t = some av → ∃ v, a.tmps[t]? = some v ∧ (av = .dead ∨ ∃ p, av = .pv p ∧ Rp W Pi p v)) : Good W.heap.size W Pi M pin0 ((st.only f).put d (.pv (.lit (.bool b)))) (a.put d (.bool b)) W := by
  cases d with
  | none => exact good_pure hp hsz hd rfl rfl rfl h
  | some t =>
    have ht := hN t rfl
    refine good_pure hp (by simp [Act.put, hsz]) (by rw [put_tmps]; exact hd) rfl rfl (by simp [St.put, St.only, drop1]) fun u av hu => ?_
    rw [look_put] at hu
    rw [put_get (by rw [hsz]; exact ht)]
    by_cases e : u = t
    · rw [if_pos e] at hu ⊢
      simp only [Option.map_some, Option.some.injEq] at hu
      refine ⟨_, rfl, ?_⟩
      rw [← hu]
      simp only [refersTo]
      exact .inr ⟨_, rfl, .lit rfl⟩
    · rw [if_neg e] at hu ⊢
      cases hq : look (st.only f).sl u with
      | none => rw [hq] at hu; simp at hu
      | some y =>
        rw [hq] at hu
        simp only [Option.map_some, Option.some.injEq] at hu
        obtain ⟨v, hv, h2⟩ := h u y hq
        refine ⟨v, hv, ?_⟩
        split at hu
        · exact .inl hu.symm
        · rw [← hu]; exact h2
theorem yOps_ok (hC : CallOk P call) (Y : YP P n l N xs J Jx) {ops : Array Oper} {Q : Exit → Act → World → Prop} {K : St → Option Nat → Prop} (hQ : ∀ st k a W, K st k → YG J Jx M k st a W → Q .normal a W) :
    ∀ (r : List Oper) (st : St) (k : Option Nat) (a : Act) (W : World), (∀ o ∈ r, ∀ d, o.dst = some d → d < M) → YG J Jx M k st a W → yOps P call l xs N ops.toList r st k K → wpListIn Fence.wide n P ops Q r a W
  | [], st, k, a, W, hN, G, h => hQ st k a W h G
  | o :: r, st, k, a, W, hN, G, h => by
    have hN' : ∀ o ∈ r, ∀ d, o.dst = some d → d < M := fun o' ho' => hN o' (List.mem_cons_of_mem _ ho')
    simp only [yOps] at h
    refine wpListIn_step fun K2 hK => ?_
    obtain ⟨base0, w00, Pr00, G0⟩ := G.any
    obtain ⟨PrI, bkI, I, hI2⟩ := G0
    split at h
    · rename_i hw
      rw [if_pos (wanted_eq (ops := ops) I hw)]
      split at h
      · -- yield
        rename_i j0 as_ has
        split at h
        · rename_i i
          obtain ⟨hjl, hi, hxs, ht, hf⟩ := h
          unfold yieldArgs at has
          split at has
          · rename_i g args ts ho
            split at has
            · rename_i j fi ca hev
              · split at has
                · simp at has
                · rename_i hlo
                  simp only [Option.map_eq_some_iff, Prod.mk.injEq] at has
                  obtain ⟨as', has, hj0, rfl⟩ := has
                  rw [hj0, hjl] at hev
                  obtain ⟨A, Pi, hJ, hg, hex, Pr1, bk1, I1, hb1, hp1, hko1, _, hkc1, hd1⟩ := G
                  have hdef : a.defers = [] := hd1 [] rfl
                  have hgv := ev_pv I1 hev
                  have hsc : fi = #[] ∧ a.eval g = .func (.yield l) fi ca := by
                    cases hge : a.eval g <;> rw [hge] at hgv <;> cases hgv
                    rename_i hs
                    simp only [scal, Bool.and_eq_true, Array.isEmpty_iff] at hs
                    exact ⟨hs.1, rfl⟩
                  have hargs := argsOf_rp0 I1 (by simpa using hlo) has
                  rw [hxs] at hargs
                  have hvals := plainP_all (Y.plain i hi) hargs
                  have hJ2 := Y.grow i Pi A W hJ hg
                  have hy := Y.round i _ W hJ2 hi
                  have harr : args.map a.eval = ((xs i).map plainV).toArray := by
                    rw [← hvals]; exact Array.ext' (by simp)
                  rw [← harr] at hy
                  refine oper_yield ho hsc.2 hsc.1 hy ?_
                  rintro e W' (⟨rfl, hJ3, hkeep, hsize⟩ | ⟨rfl, hJx⟩)
                  · refine ⟨_, rfl, hK _ _ (yOps_ok hC Y hQ r _ _ _ W' hN' ?_ ht)⟩
                    have hexW : ∀ b o, Pi.plus A W b o → ∃ v, W.cell? ⟨b, o, none⟩ = some v := fun b o h => by
                      rcases h with h | ⟨_, v, h⟩
                      · obtain ⟨v, hv⟩ := hex b o h
                        exact ⟨v, (hb1.cell (p := ⟨b, o, none⟩) (cell_lt hv)).trans hv⟩
                      · exact ⟨v, h⟩
                    have hcar : Carry W Pr1 W' (Pi.plus A W) := fun b o v h1 h2 => by
                      have hPl : Pi.plus A W b o := by
                        by_cases hlt : b < A.heap.size
                        · exact .inl (hp1 b o hlt h1)
                        · exact .inr ⟨by omega, v, h2⟩
                      exact ⟨hPl, hkeep b o v hPl h2⟩
                    refine ⟨W', _, hJ3, ⟨rfl, rfl, rfl, Nat.le_refl _, fun _ _ _ => rfl⟩, fun b o h => ?_, ?_⟩
                    · obtain ⟨v, hv⟩ := hexW b o h
                      exact ⟨v, hkeep b o v h hv⟩
                    · refine good_put (hN o (by simp)) (fun b o h => ?_) I1.size hdef backV fun t av hta => ?_
                      · obtain ⟨v, hv⟩ := hexW b o h
                        exact Nat.lt_of_lt_of_le (cell_lt hv) hsize
                      · rw [look_only] at hta
                        cases hq : look st.sl t with
                        | none => rw [hq] at hta; simp at hta
                        | some y =>
                          rw [hq] at hta
                          simp only [Option.map_some, Option.some.injEq] at hta
                          obtain ⟨v, hv, h2⟩ := I1.slots t y hq
                          refine ⟨v, hv, ?_⟩
                          cases y with
                          | pv p => exact .inr ⟨p, hta.symm, Rp.carry hcar h2⟩
                          | _ => exact .inl hta.symm
                  · refine ⟨_, rfl, hK _ _ (yOps_ok hC Y hQ r _ _ _ W' hN' ?_ hf)⟩
                    refine ⟨W', fun _ _ => False, hJx, ⟨rfl, rfl, rfl, Nat.le_refl _, fun _ _ _ => rfl⟩, ?_⟩
                    refine good_put (hN o (by simp)) (fun b o h => h.elim) I1.size hdef goneV fun t av hta => ?_
                    rw [look_only] at hta
                    cases hq : look st.sl t with
                    | none => rw [hq] at hta; simp at hta
                    | some y =>
                      rw [hq] at hta
                      simp only [Option.map_some, Option.some.injEq] at hta
                      obtain ⟨v, hv, h2⟩ := I1.slots t y hq
                      refine ⟨v, hv, ?_⟩
                      cases y with
                      | pv p =>
                        simp only [goneV] at hta
                        split at hta
                        · rename_i hpl
                          refine .inr ⟨p, hta.symm, ?_⟩
                          rw [plainP_eq hpl h2]
                          exact plainP_rp hpl
                        · exact .inl hta.symm
                      | _ => exact .inl hta.symm
            · simp at has
          · simp at has
        · exact h.elim
      · -- the machine
        split at h
        · rename_i s hs
          have hfin : ∀ a' W', YG J Jx M k s a' W' → K2 a' W' := fun a' W' G' => hK a' W' (yOps_ok hC Y hQ r s k a' W' hN' G' h)
          cases k with
          | some i =>
            obtain ⟨A, Pi, h1, h2, h3, Pr1, bk1, I1, hG2⟩ := G
            exact oper_in easy_wide (aop_notDefer hs) (Good.step hG2 (fun _ _ => rfl) (aop_ok hC I1 (hN o (by simp)) hs) fun a' W' G' => hfin a' W' ⟨A, Pi, h1, grownBy_of_below h2 (Good.below G'), h3, G'⟩)
          | none =>
            obtain ⟨A, Pi, h1, h2, Pr1, bk1, I1, hG2⟩ := G
            exact oper_in easy_wide (aop_notDefer hs) (Good.step hG2 (fun _ _ => rfl) (aop_ok hC I1 (hN o (by simp)) hs) fun a' W' G' => hfin a' W' ⟨A, Pi, h1, grownBy_of_below h2 (Good.below G'), G'⟩)
        · exact h.elim
    · rename_i hw
      rw [if_neg (by rw [wanted_eq (ops := ops) I hw]; simp)]
      refine ⟨fun f _ => trivial, hK _ _ (yOps_ok hC Y hQ r _ k _ W hN' ?_ h)⟩
      have skip : ∀ base w0 Pr0, Good base w0 Pr0 M pin0 st a W → Good base w0 Pr0 M pin0 (st.put o.dst undefA) (a.put o.dst undef) W := fun base w0 Pr0 ⟨Pr1, bk1, I1, hG2⟩ => by
        obtain ⟨bk', I', hbk⟩ := skip_ok I1 (hN o (by simp))
        exact ⟨Pr1, bk', I', hG2.1, hG2.2.1, hG2.2.2.1, fun k b e => by simp [pin0] at e, hG2.2.2.2.2.1, fun ds e => by rw [put_tmps]; exact hG2.2.2.2.2.2 ds e⟩
      cases k with
      | some i => obtain ⟨A, Pi, h1, h2, h3, h4⟩ := G; exact ⟨A, Pi, h1, h2, h3, skip _ _ _ h4⟩
      | none => obtain ⟨A, Pi, h1, h2, h4⟩ := G; exact ⟨A, Pi, h1, h2, skip _ _ _ h4⟩
    · exact h.elim
end
end Go.Proofs.YtibbgjafjhcemaaDoor.Cul
/-! M30 -/
set_option linter.unusedVariables false
set_option linter.unusedSimpArgs false
namespace Go.Proofs.YtibbgjafjhcemaaDoor.Cul
open Go Go.RowKit
section
variable {P : Program} {call : Cl} {note : Nat → Note} {yr : Nat → Bool} {l : Nat} {xs : Nat → List PV} {N fuel : Nat} {n : Nat} {M : Nat} {J : Nat → Prot → World → Prop} {Jx : World → Prop}
theorem yrounds_ok {c : Code} {f : St → Option Nat → YT} {Q : Xt → St → Option Nat → Prop} {R : Exit → Act → World → Prop}
    (hf : ∀ st k Q a W (R : Exit → Act → World → Prop), f st k Q → YG J Jx M k st a W → (∀ x s k' a' W', Q x s k' → YG J Jx M k' s a' W' → R (toExit x) a' W') → c.wpIn Fence.wide n P R a W)
    (hR : ∀ x s k' a' W', Q x s k' → YG J Jx M k' s a' W' → R (toExit x) a' W') :
    ∀ (m : Nat) (st : St) (k : Option Nat) (a : Act) (W : World), yLoop f Q m st k → YG J Jx M k st a W → Code.roundsIn Fence.wide n P c R m a W
  | 0, st, k, a, W, h, G => h.elim
  | m + 1, st, k, a, W, h, G => by
    simp only [yLoop] at h
    rw [roundsIn_succ]
    refine hf st k _ a W _ h G fun x s k' a' W' hq G' => ?_
    cases x with
    | normal => exact yrounds_ok hf hR m s k' a' W' hq G'
    | exit id => exact hR _ s k' a' W' hq G'
    | ret => exact hR _ s k' a' W' hq G'
theorem YG.val {k : Option Nat} {st : St} {a : Act} {W : World} (G : YG J Jx M k st a W) {x : Operand} {v : Value} (h : st.val x = some v) : a.eval x = v := by
  obtain ⟨_, _, _, G⟩ := G.any
  exact G.val h
theorem ywp_ok (hC : CallOk P call) (hm : P.follows .mixedOrders = true) (Y : YP P n l N xs J Jx) : ∀ (c : Code), okCode M c = true → ∀ (st : St) (k : Option Nat) (Q : Xt → St → Option Nat → Prop) (a : Act) (W : World) (R : Exit → Act → World → Prop),
    ywp P call note yr l xs N fuel c st k Q → YG J Jx M k st a W → (∀ x s k' a' W', Q x s k' → YG J Jx M k' s a' W' → R (toExit x) a' W') → c.wpIn Fence.wide n P R a W
  | .skip, _, st, k, Q, a, W, R, h, G, hR => wpIn_skip (hR .normal st k a W h G)
  | .region id ops dr, hok, st, k, Q, a, W, R, h, G, hR => by
    have Gs : YG J Jx M k ((note id).still.foldl St.cold1 st) a W := G.less fun _ _ _ g => Good.stills _ g
    simp only [ywp] at h
    split at h
    · obtain ⟨rfl, h⟩ := h
      simp only [okCode, okOps, Bool.and_eq_true] at hok
      refine wpIn_region_list (yOps_ok hC Y (fun s k' a' W' hq G' => hR .normal _ k' a' W' hq (G'.less fun _ _ _ g => g.keepOnly _)) ops.toList _ k a W (fun o ho d hd => ?_) Gs h)
      have := List.all_eq_true.1 hok.1 o ho
      rw [hd] at this; simpa using this
    · split at h
      · rename_i s hs
        exact Gs.step (x := .normal) (fun A Pi g R hR2 => region_ok easy_wide n hC hm hok (fun _ _ _ _ => rfl) g hs hR2) fun a' W' G' => hR .normal _ k a' W' h (G'.less fun _ _ _ g => g.keepOnly _)
      · exact h.elim
  | .seq p q, hok, st, k, Q, a, W, R, h, G, hR => by
    simp only [okCode, Bool.and_eq_true] at hok
    simp only [ywp] at h
    refine wpIn_seq (ywp_ok hC hm Y p hok.1 st k _ a W _ h G fun x s k' a' W' hq G' => ?_)
    cases x with
    | normal => exact ywp_ok hC hm Y q hok.2 s k' Q a' W' R hq G' hR
    | exit id => exact hR _ s k' a' W' hq G'
    | ret => exact hR _ s k' a' W' hq G'
  | .cond c t e, hok, st, k, Q, a, W, R, h, G, hR => by
    simp only [okCode, Bool.and_eq_true] at hok
    simp only [ywp] at h
    split at h
    · rename_i hv
      exact wpIn_cond_true (G.val hv) (ywp_ok hC hm Y t hok.1 st k Q a W R h G hR)
    · rename_i hv
      exact wpIn_cond_false (G.val hv) (ywp_ok hC hm Y e hok.2 st k Q a W R h G hR)
    · exact h.elim
  | .block id c, hok, st, k, Q, a, W, R, h, G, hR => by
    simp only [okCode] at hok
    simp only [ywp] at h
    refine wpIn_block (ywp_ok hC hm Y c hok st k _ a W _ h G fun x s k' a' W' hq G' => ?_)
    cases x with
    | normal => exact hR .normal s k' a' W' hq G'
    | exit j =>
      simp only [toExit, Exit.inBlock]
      simp only at hq
      split at hq
      · rename_i hj; rw [if_pos hj]; exact hR .normal s k' a' W' hq G'
      · rename_i hj; rw [if_neg hj]; exact hR (.exit j) s k' a' W' hq G'
    | ret => exact hR .ret s k' a' W' hq G'
  | .loop c, hok, st, k, Q, a, W, R, h, G, hR => by
    simp only [okCode] at hok
    simp only [ywp] at h
    exact wpIn_loop_rounds fuel (yrounds_ok (f := ywp P call note yr l xs N fuel c) (fun st k Q a W R h G hR => ywp_ok hC hm Y c hok st k Q a W R h G hR) hR fuel st k a W h G)
  | .rangeFunc .., _, st, k, Q, a, W, R, h, G, hR => h.elim
  | .exit id, _, st, k, Q, a, W, R, h, G, hR => wpIn_exit (hR (.exit id) st k a W h G)
  | .ret, _, st, k, Q, a, W, R, h, G, hR => wpIn_ret (hR .ret st k a W h G)
  | .label _, hok, _, _, _, _, _, _, _, _, _ => by simp [okCode] at hok
  | .goto _, hok, _, _, _, _, _, _, _, _, _ => by simp [okCode] at hok
end
/-- How an iterator ends: all given, or told to stop. -/
def yEnd (N : Nat) : Xt → St → Option Nat → Prop
  | .exit _, _, _ => False
  | _, _, k => k = none ∨ k = some N
def yv (l : Nat) : PV := .lit (.func (.yield l) #[] #[])
/-- An iterator's contract out of its run. -/
theorem iter_of_ywp {P : Program} {call : Cl} (hC : CallOk P call) (hm : P.follows .mixedOrders = true) {f : Nat} {fn : Func} {c : Code} (hf : P.funcs[f]? = some fn) (hb : fn.body = some c) (hok : okCode fn.ntmps c = true) (hnm : (fn.name == "runtime.NumGoroutine") = false) (hres : fn.results = #[])
    {note : Nat → Note} {yr : Nat → Bool} {fuel k : Nat} {caps : List PV} {xs : List (List PV)} (hlen : ∀ x ∈ xs, x.length = k ∧ x.all plainP = true)
    (h : ∀ l, ywp P call note yr l (fun i => xs.getD i []) xs.length fuel c (.enter (yv l :: caps)) (some 0) (yEnd xs.length)) :
    HasBody P f ∧ ∀ (vs : List Value) (w : World) (Pr : Prot), (∀ b o, Pr b o → b < w.heap.size) → RpL w Pr caps vs →
    ∃ enc : Nat → List Value, (∀ i x, xs[i]? = some x → (enc i).length = k ∧ ∀ W Pr', RpL W Pr' x (enc i)) ∧ ∀ n, 1 ≤ n → Gives P n f vs.toArray (fun i => (enc i).toArray) xs.length Pr w := by
  refine ⟨⟨fn, c, hf, hb, hnm⟩, fun vs w Pr hp hr => ⟨fun i => (xs.getD i []).map plainV, fun i x hx => ?_, fun n hn l J Jx W hbel hgrow hgrowx hround h0 => ?_⟩⟩
  · have hm := List.mem_of_getElem? hx
    have hg : xs.getD i [] = x := by rw [List.getD_eq_getElem?_getD, hx]; rfl
    simp only [hg]
    exact ⟨by rw [List.length_map]; exact (hlen x hm).1, fun W Pr' => plainP_rps (hlen x hm).2⟩
  · have Y : YP P n l xs.length (fun i => xs.getD i []) J Jx := ⟨hgrow, hgrowx, fun i hi => (hlen _ (by
      rw [List.getD_eq_getElem?_getD, List.getElem?_eq_getElem hi]; exact List.getElem_mem hi)).2, fun i Pi W1 hJ hi => hround i Pi W1 hJ hi⟩
    refine callsIn_of_wp hf hb trivial ?_ rfl
    have hcar : Carry w Pr W (Pr.here w) := fun b o v h1 h2 => ⟨⟨h1, v, h2⟩, (hbel.cell (p := ⟨b, o, none⟩) (hp b o h1)).trans h2⟩
    have hrl : RpL W (Pr.here w) (yv l :: caps) ((.func (.yield l) #[] #[]) :: vs) := .cons (.lit rfl) (RpL.carry hcar hr)
    have hpW : ∀ b o, Pr.here w b o → b < W.heap.size := fun b o h => Nat.lt_of_lt_of_le (hp b o h.1) hbel.size
    have I0 := entry_inv hpW hrl (fn.ntmps - (#[Value.func (.yield l) #[] #[]] ++ vs.toArray).size)
    have hexW : ∀ b o, Pr.here w b o → ∃ v, W.cell? ⟨b, o, none⟩ = some v := fun b o h => by
      obtain ⟨v, hv⟩ := h.2
      exact ⟨v, (hbel.cell (p := ⟨b, o, none⟩) (hp b o h.1)).trans hv⟩
    have hok2 : okCode ((Value.func (.yield l) #[] #[] :: vs).length + (fn.ntmps - (#[Value.func (.yield l) #[] #[]] ++ vs.toArray).size)) c = true := okCode_mono (by simp; omega) hok
    have G : YG J Jx ((Value.func (.yield l) #[] #[] :: vs).length + (fn.ntmps - (#[Value.func (.yield l) #[] #[]] ++ vs.toArray).size)) (some 0) (.enter (yv l :: caps)) { tmps := (Value.func (.yield l) #[] #[] :: vs).toArray ++ Array.replicate (fn.ntmps - (#[Value.func (.yield l) #[] #[]] ++ vs.toArray).size) undef, defers := [] } W :=
      ⟨W, _, h0, ⟨rfl, rfl, rfl, Nat.le_refl _, fun _ _ _ => rfl⟩, hexW, _, _, I0, Below.refl _ _, fun _ _ _ h => h, KO.refl _, fun k b e => by simp [pin0] at e, fun _ _ _ h1 h2 => ⟨h1, h2⟩, fun ds e => by simpa [pin0] using e⟩
    have hargs : #[Value.func (.yield l) #[] #[]] ++ vs.toArray = (Value.func (.yield l) #[] #[] :: vs).toArray := Array.ext' (by simp)
    rw [hargs]
    rw [hargs] at G hok2
    refine ywp_ok hC hm Y c hok2 _ _ _ _ W _ (h l) G fun x s k' a' W' hq G' => ?_
    have hd : a'.defers = [] := by
      obtain ⟨_, _, _, _, _, _, _, _, _, _, _, hd⟩ := G'.any
      exact hd [] rfl
    have fin : (k' = none ∨ k' = some xs.length) → (∃ v, Ending.returned (.tuple #[]) = .returned v) ∧ ((∃ Pi, J xs.length Pi W') ∨ Jx W') := fun hk => by
      refine ⟨⟨_, rfl⟩, ?_⟩
      rcases hk with rfl | rfl
      · obtain ⟨A, Pi, h1, h2, _⟩ := G'
        exact .inr (hgrowx _ _ h1 h2)
      · obtain ⟨A, Pi, h1, h2, _⟩ := G'
        exact .inl ⟨_, hgrow _ _ _ _ h1 h2⟩
    cases x with
    | exit id => exact hq.elim
    | normal => exact ⟨hd, _, results_none hres _ _ _, fin hq⟩
    | ret => exact ⟨hd, _, results_none hres _ _ _, fin hq⟩
end Go.Proofs.YtibbgjafjhcemaaDoor.Cul
/-! M31 -/
set_option linter.unusedVariables false
namespace Go.Proofs.YtibbgjafjhcemaaDoor.Cul
open Go Go.RowKit
/-- One function's run by a script. -/
def runX (M : Mach) (S : Cl) (k f : Nat) (args : List PV) (s : List El) : Option (RV × List Prop) :=
  (M.P.funcs[f]?).bind fun fn => abodyX M.P S M.iter k (M.note f) fn args s
theorem runX_is {M : Mach} (hM : MachOk M) {S : Cl} (hC : CallOk M.P S) {k f : Nat} {args : List PV} {s : List El} {r : RV} {ob : List Prop} (hp : M.prim f = none) (h : runX M S k f args s = some (r, ob)) (ho : AllP ob) : CallIs M.P f args r := by
  simp only [runX, Option.bind_eq_some_iff] at h
  obtain ⟨fn, hfn, h⟩ := h
  exact abody_is hC hM.iters hM.orders hfn (hM.fns f fn hfn hp) (abodyX_ok h ho)
/-- The same of a callee that writes into an array of the caller's. -/
def runMX (M : Mach) (S : Cl) (k f : Nat) (ms : List MA) (s : List El) : Option ((MR × List PV) × List Prop) :=
  (M.P.funcs[f]?).bind fun fn => ambodyX M.P S M.iter k (M.note f) fn ms s
theorem runMX_is {M : Mach} (hM : MachOk M) {S : Cl} (hC : CallOk M.P S) {k f : Nat} {ms : List MA} {s : List El} {r : MR} {cs' : List PV} {ob : List Prop} (hp : M.prim f = none) (h : runMX M S k f ms s = some ((r, cs'), ob)) (ho : AllP ob) : MutIs M.P f ms r cs' := by
  simp only [runMX, Option.bind_eq_some_iff] at h
  obtain ⟨fn, hfn, h⟩ := h
  exact mbody_is hC hM.iters hM.orders hfn (hM.fns f fn hfn hp) (ambodyX_ok h ho)
/-- The loops of a function's code, in the order of its text (a loop within a loop behind it). -/
def loopsOf : Code → List Code
  | .seq a b | .cond _ a b => loopsOf a ++ loopsOf b
  | .block _ c => loopsOf c
  | .loop c => c :: loopsOf c
  | .rangeFunc _ _ a b => loopsOf a ++ loopsOf b
  | _ => []
def loopOf (M : Mach) (f j : Nat) : Code := ((loopsOf ((((M.P.funcs[f]?).bind (·.body))).getD .skip))[j]?).getD .skip
/-- One round of a loop. -/
noncomputable def roundM (M : Mach) (S : Cl) (k f j : Nat) (st : St) : Option (Xt × St) := arun M.P S M.iter (fun g => loopN g k) (M.note f) (loopOf M f j) st
def roundX (M : Mach) (S : Cl) (k f j : Nat) (st : St) (s : List El) : Option (Ow (Xt × St)) := arunX M.P S M.iter k (M.note f) (loopOf M f j) st s
theorem roundX_ok {M : Mach} {S : Cl} {k f j : Nat} {st : St} {s s' : List El} {x : Xt × St} {ob : List Prop} (h : roundX M S k f j st s = some (x, s', ob)) (ho : AllP ob) : roundM M S k f j st = some x := arunX_ok _ _ _ _ _ _ h ho
/-- A loop's run. -/
noncomputable def loopM (M : Mach) (S : Cl) (k f j : Nat) (st : St) : Option (Xt × St) := loopN (roundM M S k f j) k st
/-- How a loop ends. -/
abbrev LoopIs (M : Mach) (S : Cl) (k f j : Nat) (st : St) (x : Xt) (s1 : St) : Prop := LoopEnds M.P S M.iter k (M.note f) (loopOf M f j) st x s1
theorem loopN_next {f : St → Option (Xt × St)} {n : Nat} {st s : St} {r : Xt × St} (h : f st = some (.normal, s)) (k : loopN f n s = some r) : loopN f (n + 1) st = some r := by
  simp only [loopN, h, Option.bind_some]; exact k
theorem loopN_exit {f : St → Option (Xt × St)} {n : Nat} {st s : St} {x : Xt} (h : f st = some (x, s)) (hx : x ≠ .normal) : loopN f (n + 1) st = some (x, s) := by
  simp only [loopN, h, Option.bind_some]
  cases x with
  | normal => exact absurd rfl hx
  | _ => rfl
theorem loopN_le {f : St → Option (Xt × St)} : ∀ {n m : Nat} {st : St} {r : Xt × St}, n ≤ m → loopN f n st = some r → loopN f m st = some r
  | 0, _, _, _, _, h => by simp [loopN] at h
  | n + 1, 0, _, _, hl, _ => by omega
  | n + 1, m + 1, st, r, hl, h => by
    simp only [loopN, Option.bind_eq_some_iff] at h ⊢
    obtain ⟨⟨y, s⟩, h1, h2⟩ := h
    refine ⟨(y, s), h1, ?_⟩
    cases y with
    | normal => exact loopN_le (by omega) h2
    | _ => exact h2
/-- A loop by a chain of states. -/
theorem loopN_chain {f : St → Option (Xt × St)} {S : Nat → St} {n : Nat} (h : ∀ i, i < n → f (S i) = some (.normal, S (i + 1))) {r : Xt × St} (hr : f (S n) = some r) (hx : r.1 ≠ .normal) : ∀ m, n < m → loopN f m (S 0) = some r := by
  have key : ∀ d i, i + d = n → loopN f (d + 1) (S i) = some r := by
    intro d
    induction d with
    | zero => intro i hi; have : i = n := by omega
              subst this; obtain ⟨x, s⟩ := r; exact loopN_exit hr hx
    | succ d ih => intro i hi; exact loopN_next (h i (by omega)) (ih (i + 1) (by omega))
  exact fun m hm => loopN_le hm (key n 0 (by omega))
/-- Whole numbers. -/
def iv (x : Int) : PV := .lit (.int .i64 x)
def bv (b : Bool) : PV := .lit (.bool b)
def u32v (x : Nat) : PV := .lit (.int .u32 (x : Int))
abbrev one (p : PV) : RV := ⟨p, none⟩
/-- What a function of whole numbers answers. -/
def spI1 (g : Int → Int) : List PV → Option RV
  | [.lit (.int .i64 x)] => some (one (iv (g x)))
  | _ => none
def spI2 (g : Int → Int → Int) : List PV → Option RV
  | [.lit (.int .i64 x), .lit (.int .i64 y)] => some (one (iv (g x y)))
  | _ => none
def sp0 (p : PV) : List PV → Option RV
  | [] => some (one p)
  | _ => none
theorem spI1_is {P : Program} {f : Nat} {g : Int → Int} (h : ∀ x, CallIs P f [iv x] (one (iv (g x)))) : ∀ args r, spI1 g args = some r → CallIs P f args r := by
  intro args r e
  unfold spI1 at e
  split at e
  · simp only [Option.some.injEq] at e; subst e; exact h _
  · simp at e
theorem spI2_is {P : Program} {f : Nat} {g : Int → Int → Int} (h : ∀ x y, CallIs P f [iv x, iv y] (one (iv (g x y)))) : ∀ args r, spI2 g args = some r → CallIs P f args r := by
  intro args r e
  unfold spI2 at e
  split at e
  · simp only [Option.some.injEq] at e; subst e; exact h _ _
  · simp at e
theorem sp0_is {P : Program} {f : Nat} {p : PV} (h : CallIs P f [] (one p)) : ∀ args r, sp0 p args = some r → CallIs P f args r := by
  intro args r e
  unfold sp0 at e
  split at e
  · simp only [Option.some.injEq] at e; subst e; exact h
  · simp at e
end Go.Proofs.YtibbgjafjhcemaaDoor.Cul
/-! RW -/
set_option linter.unusedVariables false
namespace Go.Proofs.YtibbgjafjhcemaaDoor.Cul
open Go Go.RowKit Go.ChangeShapes Go.WideShapes Go.ChangeAt
open Go.Proofs.YtibbgjafjhcemaaDoor
mutual
def flatW : DataW Unit → List Value
  | .lit l => [l.value]
  | .agg ps => flatWs ps
  | _ => []
def flatWs : List (DataW Unit) → List Value
  | [] => []
  | d :: r => flatW d ++ flatWs r
end
theorem ownK : ownKnob Go.Proofs.Tryd.prog.godebug = none := by kernel_rfl
def fillBlock (cs : List Value) : Obj → Obj
  | .cells _ t fz => .cells cs.toArray t fz
  | o => o
/-- A world for the witness: the listed tables hold what their initialisers lay. -/
noncomputable def laidWorld (os : Os) (args : Array Value) : World :=
  let w := World.holding Go.Proofs.Tryd.prog os ⟨#[], #[], []⟩
  { w with heap := (w.heap.modify 1 (fillBlock (flatW Rows.laid_unicode_utf8_first))).modify 2 (fillBlock (flatW Rows.laid_unicode_utf8_acceptRanges)) }
def laidL : List (String × DataW Unit) := [("unicode/utf8.acceptRanges", Rows.laid_unicode_utf8_acceptRanges), ("unicode/utf8.first", Rows.laid_unicode_utf8_first)]
theorem laid_met (os : Os) : laidMet Go.Proofs.Tryd.prog laidL ((laidWorld os #[]).forCall (fun _ _ => 0) ⟨#[], #[], []⟩).memory :=
  laidMet_of_run' 8 (by kernel_rfl) (by kernel_rfl)
end Go.Proofs.YtibbgjafjhcemaaDoor.Cul
