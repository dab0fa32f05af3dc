/- Part of a proof by an abstract machine for the program's code: lemmas, without conditions of their own beyond those that each states. -/
import Derived.Test.YtibbgjafjhcemaaDoorM24a
set_option linter.unusedVariables false
set_option linter.unusedSimpArgs false
namespace Go.Proofs.YtibbgjafjhcemaaDoor.Cul
open Go Go.RowKit
/-! ### A loop over a function, element by element in order -/
/-- What is protected lies as it lay. -/
def Keeps (Pi : Prot) (A B : World) : Prop := ∀ b o v, Pi b o → A.cell? ⟨b, o, none⟩ = some v → B.cell? ⟨b, o, none⟩ = some v
theorem Keeps.trans {Pi : Prot} {A B C : World} (h : Keeps Pi A B) (k : Keeps Pi B C) : Keeps Pi A C := fun b o v h1 h2 => k b o v h1 (h b o v h1 h2)
theorem Keeps.turn {Pi : Prot} {W : World} {l : Nat} {o : Obj} (o' : Obj) (h : W.heap[l]? = some o) (hc : o.isCells = false) : Keeps Pi W (W.putObj l o') := fun b i v h1 h2 => by
  have hb : b ≠ l := fun e => by subst e; rw [cell_none h hc] at h2; simp at h2
  exact (World.cell?_of_block (w := W) (a := ⟨b, i, none⟩) (World.putObj_heap_other hb)).trans h2
/-- What the iterator makes between two rounds is protected from then on. -/
def Prot.plus (Pr : Prot) (A B : World) : Prot := fun b o => Pr b o ∨ (A.heap.size ≤ b ∧ ∃ v, B.cell? ⟨b, o, none⟩ = some v)
/-- What is protected and there. -/
def Prot.here (Pr : Prot) (w : World) : Prot := fun b o => Pr b o ∧ ∃ v, w.cell? ⟨b, o, none⟩ = some v
/-- What an iterator owes: it calls yield with the k-th element, in order, as long as it is told to go on. -/
def Gives (P : Program) (n : Nat) (g : Nat) (lb : Array Value) (enc : Nat → Array Value) (N : Nat) (Pr : Prot) (w : World) : Prop :=
  ∀ (l : Nat) (J : Nat → Prot → World → Prop) (Jx : World → Prop) (W : World), Below w.heap.size w W → (∀ k Pi A B, J k Pi A → A.grownBy B none → J k (Pi.plus A B) B) → (∀ A B, Jx A → A.grownBy B none → Jx B) →
    (∀ k Pi W1, J k Pi W1 → k < N → YieldAt Fence.wide (n - 1) P l (enc k) W1 fun e W' => (e = .returned (.bool true) ∧ J (k + 1) Pi W' ∧ Keeps Pi W1 W' ∧ W1.heap.size ≤ W'.heap.size) ∨ (e = .returned (.bool false) ∧ Jx W')) →
    J 0 (Pr.here w) W → CallsIn Fence.wide n P g (#[.func (.yield l) #[] #[]] ++ lb) W fun e W' => (∃ v, e = .returned v) ∧ ((∃ Pi, J N Pi W') ∨ Jx W')
def roundOut (B : Nat) (Pi : Prot) (I : World → Prop) (Ix : Code → World → Prop) (W : World) : Exit → Act → World → Prop
  | .normal, _, W' => KeepsFrom B W W' ∧ Keeps Pi W W' ∧ I W'
  | .ret, _, W' => KeepsFrom B W W' ∧ Ix .ret W'
  | .exit id, _, W' => KeepsFrom B W W' ∧ Ix (.exit id) W'
  | _, _, _ => False
/-- An invariant that abides the loop's own book-keeping. -/
def OwnTurn (B : Nat) (I : World → Prop) : Prop := ∀ (W : World) (l : Nat) (o o' : Obj), I W → B ≤ l → W.heap[l]? = some o → o.isCells = false → o'.isCells = false → I (W.putObj l o')
theorem wpIn_rangeFunc_pos {P : Program} {n : Nat} {g : Operand} {ps : Array Tmp} {assign body : Code} {Q : Exit → Act → World → Prop} {a : Act} {w : World}
    (h1 : 1 ≤ n) {gf : Nat} {lb : Array Value} (hg : a.eval g = .func (.func gf) #[] lb) (eg : ∀ args w, (callFunc gf args).run P w = .ok (.enter gf args) w)
    {enc : Nat → Array Value} {Pr : Prot} {N : Nat} (hseq : Gives P (n - 1) gf lb enc N Pr w)
    (hps : ∀ k, k < N → (enc k).size = ps.size)
    (I : Nat → Prot → World → Prop) (Ix : Code → World → Prop) (hI : ∀ k Pi, OwnTurn w.heap.size (I k Pi)) (hIx : ∀ c, OwnTurn w.heap.size (Ix c)) (hIg : ∀ k Pi A B, I k Pi A → A.grownBy B none → I k (Pi.plus A B) B) (hIg0 : ∀ A B, I 0 (Pr.here w) A → A.grownBy B none → I 0 (Pr.here w) B) (hIxg : ∀ c A B, Ix c A → A.grownBy B none → Ix c B) (h0 : I 0 (Pr.here w) w)
    (Ax : Nat → Prot → Act → World → Prop) (hAx : ∀ k Pi a', OwnTurn w.heap.size (Ax k Pi a'))
    (hassign : ∀ (l k : Nat) (Pi : Prot) (W : World) (K : Act → World → Prop), I k Pi W → k < N → (∀ a' W', KeepsFrom w.heap.size W W' → Keeps Pi W W' → Ax k Pi a' W' → K a' W') →
      assign.wpIn (Fence.wide.inRound l) (n - 1 - 1) P (Exit.then K (fun _ _ _ => False)) { tmps := (ps.zip (enc k)).foldl (fun t (p, v) => t.setIfInBounds p v) a.tmps, defers := [] } W)
    (hbody : ∀ (l k : Nat) (Pi : Prot) (a' : Act) (W : World), Ax k Pi a' W → k < N → body.wpIn (Fence.wide.inRound l) (n - 1 - 1) P (roundOut w.heap.size Pi (I (k + 1) Pi) Ix W) a' W)
    (hdone : ∀ (D : Nat) (Pi : Prot) (W : World), w.heap.size ≤ D → I N Pi W → W.heap[D]? = some (.deferred (some [])) → Q .normal { a with defers := { target := .collected D, args := #[] } :: a.defers } W)
    (hstop : ∀ (D : Nat) (c : Code) (W : World), w.heap.size ≤ D → Ix c W → W.heap[D]? = some (.deferred (some [])) → c.wpIn Fence.wide n P Q { a with defers := { target := .collected D, args := #[] } :: a.defers } W) :
    (Code.rangeFunc g ps assign body).wpIn Fence.wide n P Q a w := by
  refine wpIn_rangeFunc ?_
  intro fn hfn
  obtain ⟨rec, hrec⟩ : ∃ rec : LoopState → Option Code → Loop, rec = fun st pe => { state := st, pending := pe, fn, tmps := a.tmps, params := ps, assign, body, defers := w.heap.size } := ⟨_, rfl⟩
  obtain ⟨W1, hW1⟩ : ∃ W1, (w.alloc (.deferred (some []))).alloc (.loop (rec .ready none)) = W1 := ⟨_, rfl⟩
  have hL1 : W1.heap[w.heap.size + 1]? = some (.loop (rec .ready none)) := by
    rw [← hW1]; have := World.alloc_heap_new (w.alloc (.deferred (some []))) (.loop (rec .ready none)); rwa [World.size_alloc] at this
  have hK1 : W1.heap[w.heap.size]? = some (.deferred (some [])) := by
    rw [← hW1]; exact (Below.heap_alloc _ _ _ (by simp)).trans (World.alloc_heap_new w _)
  have hI1 : I 0 (Pr.here w) W1 := by rw [← hW1]; exact hIg0 _ _ (hIg0 _ _ h0 (World.grownBy_alloc _ _ none)) (World.grownBy_alloc _ _ none)
  have hb1 : Below w.heap.size w W1 := by
    rw [← hW1]; exact ((Below.refl _ w).alloc (Nat.le_refl _) _).alloc (by simp) _
  have still : ∀ {A B : World} {k : Nat} {o : Obj}, A.grownBy B none → A.heap[k]? = some o → B.heap[k]? = some o := fun hg hk => (hg.block _ (Array.getElem?_eq_some_iff.1 hk).1 (by simp)).trans hk
  refine ⟨w.heap.size + 1, [{ target := .collected w.heap.size, args := #[] }], W1, { target := .fn (.func gf) lb, args := #[.func (.yield (w.heap.size + 1)) #[] #[]] }, W1, gf,
    #[.func (.yield (w.heap.size + 1)) #[] #[]] ++ lb, W1, ?_, ?_, fun _ _ => trivial, ?_, fun _ => h1, ?_⟩
  · rw [← hW1, hrec]; exact run_enterLoop_outer _ _ _ _ _
  · simp only [resolve, hg]
    simp [go_sem]
  · simp [invoke, go_sem, eg]
  · refine (hseq (w.heap.size + 1)
      (fun k Pi W => I k Pi W ∧ W.heap[w.heap.size + 1]? = some (.loop (rec .ready none)) ∧ W.heap[w.heap.size]? = some (.deferred (some [])))
      (fun W => ∃ c, Ix c W ∧ W.heap[w.heap.size + 1]? = some (.loop (rec .done (some c))) ∧ W.heap[w.heap.size]? = some (.deferred (some [])))
      W1 hb1 (fun k Pi A B hs hg' => ⟨hIg k Pi A B hs.1 hg', still hg' hs.2.1, still hg' hs.2.2⟩)
      (fun A B hs hg' => by obtain ⟨c, hc, hl, hk⟩ := hs; exact ⟨c, hIxg c A B hc hg', still hg' hl, still hg' hk⟩)
      ?_ ⟨hI1, hL1, hK1⟩).mono ?_
    · -- one round
      rintro k Pi W ⟨hi, hl, hk⟩ hlen
      have hy := run_yield (P := P) (args := enc k) hl (by rw [hrec]; exact hps k hlen)
      rw [hrec] at hy
      refine ⟨fn, _, assign, body, hy, roundIn_of_wpIn hfn (hassign _ k Pi W _ hi hlen ?_)⟩
      clear hy
      intro a' Wa hkf hkp hax
      have hla := hkf.same _ _ (by omega) hl rfl
      have hka := hkf.same _ _ (Nat.le_refl _) hk rfl
      have hlt : w.heap.size + 1 < Wa.heap.size := (Array.getElem?_eq_some_iff.1 hla).1
      refine ⟨_, run_beginRound hla (by rw [hrec]), ?_⟩
      have hl2 : (Wa.putObj (w.heap.size + 1) (.loop { rec .ready none with state := .busy })).heap[w.heap.size + 1]? = some (.loop { rec .ready none with state := .busy }) := World.putObj_heap_same hlt
      have hk2 : (Wa.putObj (w.heap.size + 1) (.loop { rec .ready none with state := .busy })).heap[w.heap.size]? = some (.deferred (some [])) := (World.putObj_heap_other (by omega)).trans hka
      have hw2 : Keeps Pi Wa (Wa.putObj (w.heap.size + 1) (.loop { rec .ready none with state := .busy })) := Keeps.turn _ hla rfl
      refine wpIn_mono (hbody _ k Pi a' _ (hAx k Pi a' _ _ _ _ hax (by omega) hla rfl rfl) hlen) ?_
      have fin : ∀ (jump : Option Code) (W3 : World), KeepsFrom w.heap.size (Wa.putObj (w.heap.size + 1) (.loop { rec .ready none with state := .busy })) W3 →
          (Instr.endRound (w.heap.size + 1) jump).run P W3 = .ok (.bool jump.isNone) (W3.putObj (w.heap.size + 1) (.loop (rec (if jump.isNone then .ready else .done) jump))) ∧
          W3.heap[w.heap.size + 1]? = some (.loop { rec .ready none with state := .busy }) ∧
          (W3.putObj (w.heap.size + 1) (.loop (rec (if jump.isNone then .ready else .done) jump))).heap[w.heap.size + 1]? = some (.loop (rec (if jump.isNone then .ready else .done) jump)) ∧
          (W3.putObj (w.heap.size + 1) (.loop (rec (if jump.isNone then .ready else .done) jump))).heap[w.heap.size]? = some (.deferred (some [])) := fun jump W3 hk3 => by
        have hl3 := hk3.same _ _ (by omega) hl2 rfl
        have := run_endRound (P := P) jump hl3
        rw [hrec] at this ⊢
        exact ⟨this, by rw [hrec] at hl3; exact hl3, World.putObj_heap_same (Array.getElem?_eq_some_iff.1 hl3).1, (World.putObj_heap_other (by omega)).trans (hk3.same _ _ (Nat.le_refl _) hk2 rfl)⟩
      rintro e a3 W3 hp
      cases e with
      | normal =>
        obtain ⟨hk3, hkp3, hi3⟩ := hp
        obtain ⟨hr, hl3, hl4, hk4⟩ := fin none W3 hk3
        exact ⟨_, _, hr, .inl ⟨rfl, ⟨hI _ _ _ _ _ _ hi3 (by omega) hl3 rfl rfl, hl4, hk4⟩, hkp.trans ((hw2.trans hkp3).trans (Keeps.turn _ hl3 rfl)), by
          have h1 := hkf.size
          have h2 := hk3.size
          simp at h2 ⊢
          omega⟩⟩
      | ret =>
        obtain ⟨hk3, hi3⟩ := hp
        obtain ⟨hr, hl3, hl4, hk4⟩ := fin (some .ret) W3 hk3
        exact ⟨_, _, hr, .inr ⟨rfl, .ret, hIx _ _ _ _ _ hi3 (by omega) hl3 rfl rfl, hl4, hk4⟩⟩
      | exit id =>
        obtain ⟨hk3, hi3⟩ := hp
        obtain ⟨hr, hl3, hl4, hk4⟩ := fin (some (.exit id)) W3 hk3
        exact ⟨_, _, hr, .inr ⟨rfl, .exit id, hIx _ _ _ _ _ hi3 (by omega) hl3 rfl rfl, hl4, hk4⟩⟩
      | goto t => exact hp.elim
      | panic ch => exact hp.elim
      | outgrown => exact hp.elim
    · -- behind the iterator
      rintro e W2 ⟨⟨v, rfl⟩, (⟨Pi, hi, hl, hk⟩ | ⟨c, hi, hl, hk⟩)⟩
      · exact ⟨none, _, by have := run_endLoop (P := P) hl (by rw [hrec]; simp); rw [hrec] at this; exact this, hdone _ Pi _ (Nat.le_refl _) (hI _ _ _ _ _ _ hi (by omega) hl rfl rfl) ((World.putObj_heap_other (by omega)).trans hk)⟩
      · exact ⟨some c, _, by have := run_endLoop (P := P) hl (by rw [hrec]; simp); rw [hrec] at this; exact this, hstop _ c _ (Nat.le_refl _) (hIx _ _ _ _ _ hi (by omega) hl rfl rfl) ((World.putObj_heap_other (by omega)).trans hk)⟩
end Go.Proofs.YtibbgjafjhcemaaDoor.Cul
