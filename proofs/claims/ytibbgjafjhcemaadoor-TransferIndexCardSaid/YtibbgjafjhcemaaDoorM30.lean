/- Part of a proof by an abstract machine for the program's code: lemmas, without conditions of their own beyond those that each states. -/
import Derived.Test.YtibbgjafjhcemaaDoorM29
set_option linter.unusedVariables false
set_option linter.unusedSimpArgs false
namespace Go.Proofs.YtibbgjafjhcemaaDoor.Cul
open Go Go.RowKit
section
variable {P : Program} {call : Nat → List PV → Option RV} {note : Nat → Note} {yr : Nat → Bool} {l : Nat} {xs : Nat → List PV} {N fuel : Nat} {n : Nat} {M : Nat} {J : Nat → Prot → World → Prop} {Jx : World → Prop}
theorem yrounds_ok {c : Code} {f : St → Option Nat → YT} {Q : Xt → St → Option Nat → Prop} {R : Exit → Act → World → Prop}
    (hf : ∀ st k Q a W (R : Exit → Act → World → Prop), f st k Q → YG J Jx M k st a W → (∀ x s k' a' W', Q x s k' → YG J Jx M k' s a' W' → R (toExit x) a' W') → c.wpIn Fence.wide n P R a W)
    (hR : ∀ x s k' a' W', Q x s k' → YG J Jx M k' s a' W' → R (toExit x) a' W') :
    ∀ (m : Nat) (st : St) (k : Option Nat) (a : Act) (W : World), yLoop f Q m st k → YG J Jx M k st a W → Code.roundsIn Fence.wide n P c R m a W
  | 0, st, k, a, W, h, G => h.elim
  | m + 1, st, k, a, W, h, G => by
    simp only [yLoop] at h
    rw [roundsIn_succ]
    refine hf st k _ a W _ h G fun x s k' a' W' hq G' => ?_
    cases x with
    | normal => exact yrounds_ok hf hR m s k' a' W' hq G'
    | exit id => exact hR _ s k' a' W' hq G'
    | ret => exact hR _ s k' a' W' hq G'
theorem YG.val {k : Option Nat} {st : St} {a : Act} {W : World} (G : YG J Jx M k st a W) {x : Operand} {v : Value} (h : st.val x = some v) : a.eval x = v := by
  obtain ⟨_, _, _, G⟩ := G.any
  exact G.val h
theorem ywp_ok (hC : CallOk P call) (hm : P.follows .mixedOrders = true) (Y : YP P n l N xs J Jx) : ∀ (c : Code), okCode M c = true → ∀ (st : St) (k : Option Nat) (Q : Xt → St → Option Nat → Prop) (a : Act) (W : World) (R : Exit → Act → World → Prop),
    ywp P call note yr l xs N fuel c st k Q → YG J Jx M k st a W → (∀ x s k' a' W', Q x s k' → YG J Jx M k' s a' W' → R (toExit x) a' W') → c.wpIn Fence.wide n P R a W
  | .skip, _, st, k, Q, a, W, R, h, G, hR => wpIn_skip (hR .normal st k a W h G)
  | .region id ops dr, hok, st, k, Q, a, W, R, h, G, hR => by
    have Gs : YG J Jx M k ((note id).still.foldl St.still1 st) a W := G.less fun _ _ _ g => Good.stills _ g
    simp only [ywp] at h
    split at h
    · obtain ⟨rfl, h⟩ := h
      simp only [okCode, okOps, Bool.and_eq_true] at hok
      refine wpIn_region_list (yOps_ok hC Y (fun s k' a' W' hq G' => hR .normal _ k' a' W' hq (G'.less fun _ _ _ g => g.keepOnly _)) ops.toList _ k a W (fun o ho d hd => ?_) Gs h)
      have := List.all_eq_true.1 hok.1 o ho
      rw [hd] at this; simpa using this
    · split at h
      · rename_i s hs
        exact Gs.step (x := .normal) (fun A Pi g R hR2 => region_ok easy_wide n hC hm hok (fun _ _ _ _ => rfl) g hs hR2) fun a' W' G' => hR .normal _ k a' W' h (G'.less fun _ _ _ g => g.keepOnly _)
      · exact h.elim
  | .seq p q, hok, st, k, Q, a, W, R, h, G, hR => by
    simp only [okCode, Bool.and_eq_true] at hok
    simp only [ywp] at h
    refine wpIn_seq (ywp_ok hC hm Y p hok.1 st k _ a W _ h G fun x s k' a' W' hq G' => ?_)
    cases x with
    | normal => exact ywp_ok hC hm Y q hok.2 s k' Q a' W' R hq G' hR
    | exit id => exact hR _ s k' a' W' hq G'
    | ret => exact hR _ s k' a' W' hq G'
  | .cond c t e, hok, st, k, Q, a, W, R, h, G, hR => by
    simp only [okCode, Bool.and_eq_true] at hok
    simp only [ywp] at h
    split at h
    · rename_i hv
      exact wpIn_cond_true (G.val hv) (ywp_ok hC hm Y t hok.1 st k Q a W R h G hR)
    · rename_i hv
      exact wpIn_cond_false (G.val hv) (ywp_ok hC hm Y e hok.2 st k Q a W R h G hR)
    · exact h.elim
  | .block id c, hok, st, k, Q, a, W, R, h, G, hR => by
    simp only [okCode] at hok
    simp only [ywp] at h
    refine wpIn_block (ywp_ok hC hm Y c hok st k _ a W _ h G fun x s k' a' W' hq G' => ?_)
    cases x with
    | normal => exact hR .normal s k' a' W' hq G'
    | exit j =>
      simp only [toExit, Exit.inBlock]
      simp only at hq
      split at hq
      · rename_i hj; rw [if_pos hj]; exact hR .normal s k' a' W' hq G'
      · rename_i hj; rw [if_neg hj]; exact hR (.exit j) s k' a' W' hq G'
    | ret => exact hR .ret s k' a' W' hq G'
  | .loop c, hok, st, k, Q, a, W, R, h, G, hR => by
    simp only [okCode] at hok
    simp only [ywp] at h
    exact wpIn_loop_rounds fuel (yrounds_ok (f := ywp P call note yr l xs N fuel c) (fun st k Q a W R h G hR => ywp_ok hC hm Y c hok st k Q a W R h G hR) hR fuel st k a W h G)
  | .rangeFunc .., _, st, k, Q, a, W, R, h, G, hR => h.elim
  | .exit id, _, st, k, Q, a, W, R, h, G, hR => wpIn_exit (hR (.exit id) st k a W h G)
  | .ret, _, st, k, Q, a, W, R, h, G, hR => wpIn_ret (hR .ret st k a W h G)
  | .label _, hok, _, _, _, _, _, _, _, _, _ => by simp [okCode] at hok
  | .goto _, hok, _, _, _, _, _, _, _, _, _ => by simp [okCode] at hok
end
/-- How an iterator ends: all given, or told to stop. -/
def yEnd (N : Nat) : Xt → St → Option Nat → Prop
  | .exit _, _, _ => False
  | _, _, k => k = none ∨ k = some N
def yv (l : Nat) : PV := .lit (.func (.yield l) #[] #[])
/-- An iterator's contract out of its run. -/
theorem iter_of_ywp {P : Program} {call : Nat → List PV → Option RV} (hC : CallOk P call) (hm : P.follows .mixedOrders = true) {f : Nat} {fn : Func} {c : Code} (hf : P.funcs[f]? = some fn) (hb : fn.body = some c) (hok : okCode fn.ntmps c = true) (hnm : (fn.name == "runtime.NumGoroutine") = false) (hres : fn.results = #[])
    {note : Nat → Note} {yr : Nat → Bool} {fuel k : Nat} {caps : List PV} {xs : List (List PV)} (hlen : ∀ x ∈ xs, x.length = k ∧ x.all plainP = true)
    (h : ∀ l, ywp P call note yr l (fun i => xs.getD i []) xs.length fuel c (.enter (yv l :: caps)) (some 0) (yEnd xs.length)) :
    HasBody P f ∧ ∀ (vs : List Value) (w : World) (Pr : Prot), (∀ b o, Pr b o → b < w.heap.size) → RpL w Pr caps vs →
    ∃ enc : Nat → List Value, (∀ i x, xs[i]? = some x → (enc i).length = k ∧ ∀ W Pr', RpL W Pr' x (enc i)) ∧ ∀ n, 1 ≤ n → Gives P n f vs.toArray (fun i => (enc i).toArray) xs.length Pr w := by
  refine ⟨⟨fn, c, hf, hb, hnm⟩, fun vs w Pr hp hr => ⟨fun i => (xs.getD i []).map plainV, fun i x hx => ?_, fun n hn l J Jx W hbel hgrow hgrowx hround h0 => ?_⟩⟩
  · have hm := List.mem_of_getElem? hx
    have hg : xs.getD i [] = x := by rw [List.getD_eq_getElem?_getD, hx]; rfl
    simp only [hg]
    exact ⟨by rw [List.length_map]; exact (hlen x hm).1, fun W Pr' => plainP_rps (hlen x hm).2⟩
  · have Y : YP P n l xs.length (fun i => xs.getD i []) J Jx := ⟨hgrow, hgrowx, fun i hi => (hlen _ (by
      rw [List.getD_eq_getElem?_getD, List.getElem?_eq_getElem hi]; exact List.getElem_mem hi)).2, fun i Pi W1 hJ hi => hround i Pi W1 hJ hi⟩
    refine callsIn_of_wp hf hb trivial ?_ rfl
    have hcar : Carry w Pr W (Pr.here w) := fun b o v h1 h2 => ⟨⟨h1, v, h2⟩, (hbel.cell (p := ⟨b, o, none⟩) (hp b o h1)).trans h2⟩
    have hrl : RpL W (Pr.here w) (yv l :: caps) ((.func (.yield l) #[] #[]) :: vs) := .cons (.lit rfl) (RpL.carry hcar hr)
    have hpW : ∀ b o, Pr.here w b o → b < W.heap.size := fun b o h => Nat.lt_of_lt_of_le (hp b o h.1) hbel.size
    have I0 := entry_inv hpW hrl (fn.ntmps - (#[Value.func (.yield l) #[] #[]] ++ vs.toArray).size)
    have hexW : ∀ b o, Pr.here w b o → ∃ v, W.cell? ⟨b, o, none⟩ = some v := fun b o h => by
      obtain ⟨v, hv⟩ := h.2
      exact ⟨v, (hbel.cell (p := ⟨b, o, none⟩) (hp b o h.1)).trans hv⟩
    have hok2 : okCode ((Value.func (.yield l) #[] #[] :: vs).length + (fn.ntmps - (#[Value.func (.yield l) #[] #[]] ++ vs.toArray).size)) c = true := okCode_mono (by simp; omega) hok
    have G : YG J Jx ((Value.func (.yield l) #[] #[] :: vs).length + (fn.ntmps - (#[Value.func (.yield l) #[] #[]] ++ vs.toArray).size)) (some 0) (.enter (yv l :: caps)) { tmps := (Value.func (.yield l) #[] #[] :: vs).toArray ++ Array.replicate (fn.ntmps - (#[Value.func (.yield l) #[] #[]] ++ vs.toArray).size) undef, defers := [] } W :=
      ⟨W, _, h0, ⟨rfl, rfl, rfl, Nat.le_refl _, fun _ _ _ => rfl⟩, hexW, _, _, I0, Below.refl _ _, fun _ _ _ h => h, KeepsOthers.refl _, fun k b e => by simp [pin0] at e, fun _ _ _ h1 h2 => ⟨h1, h2⟩, fun ds e => by simpa [pin0] using e⟩
    have hargs : #[Value.func (.yield l) #[] #[]] ++ vs.toArray = (Value.func (.yield l) #[] #[] :: vs).toArray := Array.ext' (by simp)
    rw [hargs]
    rw [hargs] at G hok2
    refine ywp_ok hC hm Y c hok2 _ _ _ _ W _ (h l) G fun x s k' a' W' hq G' => ?_
    have hd : a'.defers = [] := by
      obtain ⟨_, _, _, _, _, _, _, _, _, _, _, hd⟩ := G'.any
      exact hd [] rfl
    have fin : (k' = none ∨ k' = some xs.length) → (∃ v, Ending.returned (.tuple #[]) = .returned v) ∧ ((∃ Pi, J xs.length Pi W') ∨ Jx W') := fun hk => by
      refine ⟨⟨_, rfl⟩, ?_⟩
      rcases hk with rfl | rfl
      · obtain ⟨A, Pi, h1, h2, _⟩ := G'
        exact .inr (hgrowx _ _ h1 h2)
      · obtain ⟨A, Pi, h1, h2, _⟩ := G'
        exact .inl ⟨_, hgrow _ _ _ _ h1 h2⟩
    cases x with
    | exit id => exact hq.elim
    | normal => exact ⟨hd, _, results_none hres _ _ _, fin hq⟩
    | ret => exact ⟨hd, _, results_none hres _ _ _, fin hq⟩
end Go.Proofs.YtibbgjafjhcemaaDoor.Cul
