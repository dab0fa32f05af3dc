/- Part of a proof by an abstract machine for the program's code: lemmas, without conditions of their own beyond those that each states. -/
import Derived.Test.YtibbgjafjhcemaaDoorM27
set_option linter.unusedVariables false
set_option linter.unusedSimpArgs false
namespace Go.Proofs.YtibbgjafjhcemaaDoor.Cul
open Go Go.RowKit
/-! ### Iterators: a function that calls yield -/
/-- A value that leads nowhere. -/
def litP : PV → Bool
  | .lit v => scal v
  | _ => false
def plainP : PV → Bool
  | .ag cs => cs.all litP
  | p => litP p
def plainV : PV → Value
  | .lit v => v
  | .ag cs => .agg ((cs.map fun | .lit v => v | _ => undef).toArray)
  | _ => undef
theorem litP_rp {w : World} {Pr : Prot} : ∀ {cs : List PV}, cs.all litP = true → RpL w Pr cs (cs.map fun | .lit v => v | _ => undef) ∧ One (cs.map fun | .lit v => v | _ => undef)
  | [], _ => ⟨.nil, fun v h => by simp at h⟩
  | p :: cs, h => by
    simp only [List.all_cons, Bool.and_eq_true] at h
    obtain ⟨h1, h2⟩ := litP_rp h.2
    cases p with
    | lit v =>
      have hs : scal v = true := h.1
      refine ⟨.cons (.lit hs) h1, fun u hu => ?_⟩
      simp only [List.map_cons, List.mem_cons] at hu
      rcases hu with rfl | hu
      · cases u <;> simp_all [scal, Value.oneCell']
      · exact h2 u hu
    | _ => simp [litP] at h
theorem plainP_rp {w : World} {Pr : Prot} {p : PV} (h : plainP p = true) : Rp w Pr p (plainV p) := by
  cases p with
  | lit v => exact .lit h
  | ag cs => obtain ⟨h1, h2⟩ := litP_rp (w := w) (Pr := Pr) (cs := cs) h; exact .ag h1 h2
  | _ => simp [plainP, litP] at h
theorem litP_eq {w : World} {Pr : Prot} : ∀ {cs : List PV} {vs : List Value}, cs.all litP = true → RpL w Pr cs vs → vs = (cs.map fun | .lit v => v | _ => undef)
  | _, _, _, .nil => rfl
  | _, _, h, .cons h1 hs => by
    simp only [List.all_cons, Bool.and_eq_true] at h
    rw [litP_eq h.2 hs]
    cases h1 with
    | lit _ => rfl
    | _ => simp [litP] at h
theorem plainP_eq {w : World} {Pr : Prot} {p : PV} {v : Value} (h : plainP p = true) (k : Rp w Pr p v) : v = plainV p := by
  cases k with
  | lit _ => rfl
  | ag hr h1 => simp only [plainV]; rw [litP_eq h hr]
  | _ => simp [plainP, litP] at h
theorem plainP_all {w : World} {Pr : Prot} : ∀ {ps : List PV} {vs : List Value}, ps.all plainP = true → RpL w Pr ps vs → vs = ps.map plainV
  | _, _, _, .nil => rfl
  | _, _, h, .cons h1 hs => by
    simp only [List.all_cons, Bool.and_eq_true] at h
    rw [plainP_all h.2 hs, plainP_eq h.1 h1]; rfl
theorem plainP_rps {w : World} {Pr : Prot} : ∀ {ps : List PV}, ps.all plainP = true → RpL w Pr ps (ps.map plainV)
  | [], _ => .nil
  | p :: ps, h => by
    simp only [List.all_cons, Bool.and_eq_true] at h
    exact .cons (plainP_rp h.1) (plainP_rps h.2)
/-- Behind a call of yield that goes on. -/
def backV : AV → AV
  | .pv p => .pv p
  | _ => .dead
/-- Behind a call of yield that stops. -/
def goneV : AV → AV
  | .pv p => if plainP p then .pv p else .dead
  | _ => .dead
def St.only (f : AV → AV) (st : St) : St := { sl := st.sl.map fun x => (x.1, f x.2), bx := [], gr := [], tg := [] }
/-- The arguments of a call of yield. -/
def yieldArgs (o : Oper) (st : St) : Option (Nat × List PV) :=
  match o.op with
  | .call { callee := .value g, args, .. } => match st.ev g with
    | some (.pv (.lit (.func (.yield j) _ _))) => if args.toList.any (fun x => ((st.ev x).map leadsOut).getD true) then none else (argsOf st args.toList).map (j, ·)
    | _ => none
  | _ => none
section
variable (P : Program) (call : Nat → List PV → Option RV) (note : Nat → Note) (yr : Nat → Bool) (l : Nat) (xs : Nat → List PV) (N : Nat) (fuel : Nat)
def yOps (ops : List Oper) : List Oper → St → Option Nat → (St → Option Nat → Prop) → Prop
  | [], st, k, K => K st k
  | o :: r, st, k, K => match aWanted ops o st with
    | some true => match yieldArgs o st with
      | some (j, as) => match k with
        | some i => j = l ∧ i < N ∧ as = xs i ∧ yOps ops r ((st.only backV).put o.dst (.pv (.lit (.bool true)))) (some (i + 1)) K ∧ yOps ops r ((st.only goneV).put o.dst (.pv (.lit (.bool false)))) none K
        | none => False
      | none => match aop P call o st with
        | some s => yOps ops r s k K
        | none => False
    | some false => yOps ops r (st.put o.dst undefA) k K
    | none => False
abbrev YT := (Xt → St → Option Nat → Prop) → Prop
def yLoop (f : St → Option Nat → YT) (Q : Xt → St → Option Nat → Prop) : Nat → St → Option Nat → Prop
  | 0, _, _ => False
  | n + 1, st, k => f st k fun x s k' => match x with
    | .normal => yLoop f Q n s k'
    | x => Q x s k'
/-- A run that tells what it yields. -/
def ywp : Code → St → Option Nat → YT
  | .skip, st, k, Q => Q .normal st k
  | .region id ops dr, st, k, Q => if yr id then dr = false ∧ yOps P call l xs N ops.toList ops.toList ((note id).still.foldl St.still1 st) k (fun s k' => Q .normal (s.keepOnly (note id).keep) k')
    else match aregion P call ops.toList dr ((note id).still.foldl St.still1 st) with
      | some s => Q .normal (s.keepOnly (note id).keep) k
      | none => False
  | .seq a b, st, k, Q => ywp a st k fun x s k' => match x with
    | .normal => ywp b s k' Q
    | x => Q x s k'
  | .cond c t e, st, k, Q => match st.val c with
    | some (.bool true) => ywp t st k Q
    | some (.bool false) => ywp e st k Q
    | _ => False
  | .block id c, st, k, Q => ywp c st k fun x s k' => match x with
    | .exit j => if j = id then Q .normal s k' else Q (.exit j) s k'
    | x => Q x s k'
  | .loop c, st, k, Q => yLoop (ywp c) Q fuel st k
  | .exit id, st, k, Q => Q (.exit id) st k
  | .ret, st, k, Q => Q .ret st k
  | _, _, _, _ => False
end
section
variable {P : Program} {call : Nat → List PV → Option RV} {note : Nat → Note} {yr : Nat → Bool} {l : Nat} {xs : Nat → List PV} {N fuel : Nat} {n : Nat} {M : Nat} {J : Nat → Prot → World → Prop} {Jx : World → Prop}
def pin0 : Pins := ⟨fun _ => none, some []⟩
/-- The iterator's frame between two rounds. -/
def YG (J : Nat → Prot → World → Prop) (Jx : World → Prop) (M : Nat) (k : Option Nat) (st : St) (a : Act) (W : World) : Prop :=
  match k with
  | some i => ∃ A Pi, J i Pi A ∧ A.grownBy W none ∧ (∀ b o, Pi b o → ∃ v, A.cell? ⟨b, o, none⟩ = some v) ∧ Good A.heap.size A Pi M pin0 st a W
  | none => ∃ A Pi, Jx A ∧ A.grownBy W none ∧ Good A.heap.size A Pi M pin0 st a W
theorem grownBy_of_below {A W W' : World} (hg : A.grownBy W none) (h : Below A.heap.size A W') : A.grownBy W' none := ⟨h.os, h.tape, h.output, h.size, fun k hk _ => h.block k hk⟩
theorem Good.below {base : Nat} {w0 : World} {Pr0 : Prot} {st : St} {a : Act} {w : World} {pin : Pins} (G : Good base w0 Pr0 M pin st a w) : Below base w0 w := by
  obtain ⟨_, _, _, h, _⟩ := G; exact h
/-- A step of the machine. -/
theorem YG.step {k : Option Nat} {st st' : St} {a : Act} {W : World} {c : Code} {R : Exit → Act → World → Prop} {x : Exit} (G : YG J Jx M k st a W)
    (h : ∀ A Pi, Good A.heap.size A Pi M pin0 st a W → ∀ R : Exit → Act → World → Prop, (∀ a' W', Good A.heap.size A Pi M pin0 st' a' W' → R x a' W') → c.wpIn Fence.wide n P R a W)
    (hR : ∀ a' W', YG J Jx M k st' a' W' → R x a' W') : c.wpIn Fence.wide n P R a W := by
  cases k with
  | some i =>
    obtain ⟨A, Pi, h1, h2, h3, h4⟩ := G
    exact h A Pi h4 R fun a' W' G' => hR a' W' ⟨A, Pi, h1, grownBy_of_below h2 G'.below, h3, G'⟩
  | none =>
    obtain ⟨A, Pi, h1, h2, h4⟩ := G
    exact h A Pi h4 R fun a' W' G' => hR a' W' ⟨A, Pi, h1, grownBy_of_below h2 G'.below, G'⟩
theorem YG.less {k : Option Nat} {st st' : St} {a : Act} {W : World} (G : YG J Jx M k st a W) (h : ∀ base w0 Pr0, Good base w0 Pr0 M pin0 st a W → Good base w0 Pr0 M pin0 st' a W) : YG J Jx M k st' a W := by
  cases k with
  | some i => obtain ⟨A, Pi, h1, h2, h3, h4⟩ := G; exact ⟨A, Pi, h1, h2, h3, h _ _ _ h4⟩
  | none => obtain ⟨A, Pi, h1, h2, h4⟩ := G; exact ⟨A, Pi, h1, h2, h _ _ _ h4⟩
theorem YG.any {k : Option Nat} {st : St} {a : Act} {W : World} (G : YG J Jx M k st a W) : ∃ base w0 Pr0, Good base w0 Pr0 M pin0 st a W := by
  cases k with
  | some i => obtain ⟨A, Pi, h1, h2, h3, h4⟩ := G; exact ⟨_, _, _, h4⟩
  | none => obtain ⟨A, Pi, h1, h2, h4⟩ := G; exact ⟨_, _, _, h4⟩
/-- A frame of values alone, in whatever memory. -/
theorem good_pure {W : World} {Pi : Prot} {st : St} {a : Act} (hp : ∀ b o, Pi b o → b < W.heap.size) (hsz : a.tmps.size = M) (hd : a.defers = []) (hbx : st.bx = []) (hgr : st.gr = []) (htg : st.tg = [])
    (h : ∀ t av, look st.sl t = some av → ∃ v, a.tmps[t]? = some v ∧ (av = .dead ∨ ∃ p, av = .pv p ∧ Rp W Pi p v)) : Good W.heap.size W Pi M pin0 st a W := by
  have hnl : ∀ x, ¬ live st x := by
    intro x hx
    cases x with
    | bx k => obtain ⟨cs, h1⟩ := hx; rw [hbx] at h1; simp [look] at h1
    | sx t =>
      rcases hx with ⟨sz, n, cs, h1⟩ | ⟨z, h1⟩
      · obtain ⟨v, _, h2 | ⟨p, h2, _⟩⟩ := h t _ h1 <;> simp at h2
      · rw [hgr] at h1; simp [lookP] at h1
    | cx k o => obtain ⟨z, h1⟩ := hx; rw [hgr] at h1; simp [lookP] at h1
  refine ⟨Pi, fun _ => 0, ?_, Below.refl _ _, fun _ _ _ h => h, KeepsOthers.refl _, fun k b e => by simp [pin0] at e, fun _ _ _ h1 h2 => ⟨h1, h2⟩, fun ds e => by simp only [pin0, Option.some.injEq] at e; rw [hd, e]⟩
  constructor
  · exact hsz
  · rw [hd]; exact ⟨by simp, List.nodup_nil⟩
  · exact Nat.le_refl _
  · exact hp
  · intro t av ht
    obtain ⟨v, hv, h2⟩ := h t av ht
    refine ⟨v, hv, ?_⟩
    rcases h2 with rfl | ⟨p, rfl, hr⟩
    · trivial
    · exact hr
  · exact fun x hx => absurd hx (hnl x)
  · exact fun x _ hx => absurd hx (hnl x)
  · intro k cs h1; rw [hbx] at h1; simp [look] at h1
  · intro t z h1; rw [hgr] at h1; simp [lookP] at h1
  · intro k i z h1; rw [hgr] at h1; simp [lookP] at h1
  · intro t q h1; rw [htg] at h1; simp [look] at h1
theorem look_only (f : AV → AV) (st : St) (t : Nat) : look (st.only f).sl t = (look st.sl t).map f := look_map (fun x => (x.1, f x.2)) (fun _ v => f v) (fun _ => rfl) st.sl t
theorem oper_yield {o : Oper} {a : Act} {W : World} {K : Act → World → Prop} {Q : Exit → Act → World → Prop} {g : Operand} {args : Array Operand} {ts : Array TypeId} {fi ca : Array Value} {R : Ending → World → Prop}
    (ho : o.op = .call { callee := .value g, args := args, argTypes := ts }) (hg : a.eval g = .func (.yield l) fi ca) (hf : fi = #[]) (hy : YieldAt Fence.wide (n - 1) P l (args.map a.eval) W R)
    (hR : ∀ e W', R e W' → ∃ v, e = .returned v ∧ K (a.put o.dst v) W') : o.wpIn Fence.wide n P a W K Q := by
  refine ⟨fun f _ => trivial, ?_⟩
  rw [Oper.semAt_plain Fence.wide _ _ (fun c h => by rw [ho] at h; simp at h)]
  obtain ⟨fn, tmps, assign, body, h1, h2⟩ := hy
  have : (execOp a.eval o).run P W = .ok (.round l fn tmps assign body) W := by
    subst hf
    simp [execOp, ho, resolve, hg, Deferred.ofValue, invoke, h1]
  rw [this, Oper.uponIn_round]
  refine ⟨fun h => by simp [Fence.wide] at h, h2.mono fun e W' h => ?_⟩
  obtain ⟨v, rfl, hk⟩ := hR e W' h
  exact hk
end
end Go.Proofs.YtibbgjafjhcemaaDoor.Cul
