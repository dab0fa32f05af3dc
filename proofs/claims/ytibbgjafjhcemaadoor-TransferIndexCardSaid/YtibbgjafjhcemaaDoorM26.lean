/- Part of a proof by an abstract machine for the program's code: lemmas, without conditions of their own beyond those that each states. -/
import Derived.Test.YtibbgjafjhcemaaDoorM25
set_option linter.unusedVariables false
set_option linter.unusedSimpArgs false
namespace Go.Proofs.YtibbgjafjhcemaaDoor.Cul
open Go Go.RowKit
/-! ### Runs with symbolic data: a script tells what the run meets, in order; what it owes is collected -/
def AllP : List Prop → Prop
  | [] => True
  | p :: l => p ∧ AllP l
theorem AllP.app : ∀ {l m : List Prop}, AllP (l ++ m) → AllP l ∧ AllP m
  | [], _, h => ⟨trivial, h⟩
  | _ :: _, _, h => ⟨⟨h.1, (AllP.app h.2).1⟩, (AllP.app h.2).2⟩
/-- What a run meets: how a comparison comes out (also: is a new slice empty?); what a call answers; how a loop ends; that a loop is run round by round; the answer of the operation with this destination. -/
inductive El where
  | c (b : Bool)
  | r (x : RV)
  | l (x : Xt) (s : St)
  | u (n : Nat)
  | v (d : Nat) (m : Made)
def cmpOp : BinOp → Bool
  | .eql | .neq | .lss | .leq | .gtr | .geq => true
  | _ => false
abbrev Ow (α : Type) := α × List El × List Prop
def mulN (n m : Nat) : Nat := n * m
/-- The operations that only make a value. -/
def quietX (P : Program) (call : Nat → List PV → Option RV) (o : Oper) (st : St) (s : List El) : Option (Ow Made) :=
  match o.op with
  | .binOp op t x y _ => if cmpOp op then match s with
      | .c b :: s' => (st.val x).bind fun a => (st.val y).bind fun b' => match pureOp P (do eqGuard op t x y a b'; binOp op t a b') with
        | some (.lit (.bool c)) => some ({ v := .pv (.lit (.bool b)) }, s', [c = b])
        | _ => none
      | _ => none else (quiet P call o st).map fun m => (m, s, [])
  | .indexAddr t x i => ((st.pv i).bind intOfPV).bind fun n => match P.underlying t with
    | some (.slice e) => (sizeT P e).bind fun z => match st.ev x with
      | some (.pv (.sl sz len cs)) => if sz = z then some ({ v := .pv (.el (row cs sz n.toNat)) }, s, [0 ≤ n ∧ n < len]) else none
      | some (.xr u) => match look st.sl u with
        | some (.ex sz len cs) => if sz = z then some ({ v := .xe u (n.toNat * sz) }, s, [0 ≤ n ∧ n < len]) else none
        | _ => none
      | _ => none
    | _ => (quiet P call o st).map fun m => (m, s, [])
  | .slice t x lo hi mx => match st.pv x with
    | some (.sl sz n cs) => match P.underlying t, mx with
      | some (.slice e), none => if sizeT P e = some sz then
          (match hi with | none => some (n : Int) | some y => (st.pv y).bind intOfPV).bind fun h =>
          (match lo with | none => some (0 : Int) | some y => (st.pv y).bind intOfPV).bind fun l =>
          some ({ v := .pv (.sl sz (h.toNat - l.toNat) ((cs.drop (l.toNat * sz)).take ((h.toNat - l.toNat) * sz))) }, s, [0 ≤ l ∧ l ≤ h ∧ h ≤ n]) else none
      | _, _ => none
    | _ => (quiet P call o st).map fun m => (m, s, [])
  | .call { callee := .value g, args, .. } => match s with
    | .r rv :: s' => match st.ev g with
      | some v => (st.argOf v).bind fun p => match p with
        | .fn f caps => (argsOf st args.toList).bind fun as =>
          if leadsOut v || args.toList.any (fun x => ((st.ev x).map leadsOut).getD true) then (if plainR rv.v then some ({ v := .pv rv.v }, s', [call f (as ++ caps) = some rv]) else none)
          else some ({ v := .pv rv.v, gr := rv.gr }, s', [call f (as ++ caps) = some rv])
        | _ => none
      | none => none
    | _ => none
  | _ => (quiet P call o st).map fun m => (m, s, [])
def quietV (P : Program) (call : Nat → List PV → Option RV) (o : Oper) (st : St) (s : List El) : Option (Ow Made) :=
  match s, o.dst with
  | .v d m :: s', some d' => if d = d' then some (m, s', [quiet P call o st = some m]) else quietX P call o st s
  | _, _ => quietX P call o st s
def effectX (P : Program) (o : Oper) (st : St) (sc : List El) : Option (Ow St) :=
  match o.op with
  | .store t a x => match st.ev a with
    | some (.xe u off) => if o.dst = none then match look st.sl u, st.pv x with
      | some (.ex sz n cs), some p => if some p.cells.length = sizeT P t ∧ isTup p = false then some ({ st with sl := (u, .ex sz n (splice cs off p.cells)) :: drop1 st.sl u }, sc, [off + p.cells.length ≤ cs.length]) else none
      | _, _ => none else none
    | _ => (effect P o st).map fun m => (m, sc, [])
  | .makeSlice t l c => match sc with
    | .c b :: sc' => o.dst.bind fun d => match P.underlying t, (st.pv l).bind intOfPV, (st.pv c).bind intOfPV with
      | some (.slice e), some n, some m => (sizeT P e).bind fun s => (zeroT P e).bind fun z =>
        if z.cells.length = s ∧ 0 < s then
          some (if b then st.made (some d) { v := .pv (.sl s 0 []), gr := some s } else st.put (some d) (.ex s n.toNat (zerosOf z.cells n.toNat)), sc', [0 ≤ n ∧ n ≤ m ∧ m * P.bytesOf e ≤ room ∧ m ≤ room, decide (n = 0) = b]) else none
      | _, _, _ => none
    | _ => none
  | .call { callee := .builtin .append, args, argTypes } => o.dst.bind fun d => match args.toList, argTypes.toList with
    | [x, y], [T, U] => match P.underlying T, P.underlying U with
      | some (.slice e), some (.slice _) => (sizeT P e).bind fun s => (zeroT P e).bind fun z => (st.pv x).bind fun p => (viewS p).bind fun v => ((st.pv y).bind viewS).bind fun u =>
        if 0 < s ∧ z.cells.length = s then
          match p with
          | .lit _ => match sc with
            | .c b :: sc' => some (if b then st.put (some d) (.pv p) else st.made (some d) { v := .pv (.sl s u.1 u.2), gr := some s }, sc', [(v.1 + u.1) * P.bytesOf e ≤ room ∧ v.1 + u.1 ≤ room, u.2.length = u.1 * s ∧ v.2.length = v.1 * s, decide (u.1 = 0) = b])
            | _ => none
          | _ => match x with
            | .tmp t =>
              (if lookP st.gr (.s t) = some s then some (Pl.s t) else match st.tag t with | some q => if lookP st.gr q = some s then some q else none | none => none).map fun q =>
                (({ st with gr := st.gr.filter (fun x => x.1 ≠ q), tg := st.tg.map (killT q) } : St).made (some d) { v := .pv (.sl s (v.1 + u.1) (v.2 ++ u.2)), gr := some s }, sc, [(v.1 + u.1) * P.bytesOf e ≤ room ∧ v.1 + u.1 ≤ room, u.2.length = u.1 * s ∧ v.2.length = v.1 * s])
            | _ => none
        else none
      | _, _ => none
    | _, _ => none
  | _ => (effect P o st).map fun m => (m, sc, [])
def aopX (P : Program) (call : Nat → List PV → Option RV) (o : Oper) (st : St) (s : List El) : Option (Ow St) :=
  if isQuiet o.op then (quietV P call o st s).map fun x => (st.made o.dst x.1, x.2) else effectX P o st s
def aopsX (P : Program) (call : Nat → List PV → Option RV) (ops : List Oper) : List Oper → St → List El → Option (Ow St)
  | [], st, s => some (st, s, [])
  | o :: l, st, s => (aWanted ops o st).bind fun
    | true => (aopX P call o st s).bind fun y => (aopsX P call ops l y.1 y.2.1).map fun z => (z.1, z.2.1, y.2.2 ++ z.2.2)
    | false => aopsX P call ops l (st.put o.dst undefA) s
def quietDX (P : Program) (call : Nat → List PV → Option RV) (o : Oper) (st : St) (s : List El) : Option (Ow Made) :=
  match o.op with
  | .assign _ | .alloc _ => (quietD P call o st).map fun m => (m, s, [])
  | _ => (quietV P call o st s).bind fun x => if isEx x.1.v then none else some ({ x.1 with gr := none }, x.2)
def aopsDX (P : Program) (call : Nat → List PV → Option RV) (ops : List Oper) : List Oper → St → List El → Option (Ow St)
  | [], st, s => some (st, s, [])
  | o :: l, st, s => (aWanted ops o st).bind fun
    | true => (quietDX P call o st s).bind fun y => (aopsDX P call ops l (st.putD o.dst y.1) y.2.1).map fun z => (z.1, z.2.1, y.2.2 ++ z.2.2)
    | false => aopsDX P call ops l (st.putD o.dst { v := undefA }) s
def aregionX (P : Program) (call : Nat → List PV → Option RV) (ops : List Oper) (draw : Bool) (st : St) (s : List El) : Option (Ow St) :=
  if draw then
    let n := quietN ops
    if (ops.take n).all (freshDst st) then (aopsDX P call ops (ops.take n) st s).bind fun x => (x.1.settle (ops.take n)).bind fun s' => (aopsX P call ops (ops.drop n) s' x.2.1).map fun y => (y.1, y.2.1, x.2.2 ++ y.2.2) else none
  else aopsX P call ops ops st s
/-- A loop round by round. -/
def loopX (f : St → List El → Option (Ow (Xt × St))) : Nat → St → List El → Option (Ow (Xt × St))
  | 0, _, _ => none
  | n + 1, st, s => (f st s).bind fun x => match x.1.1 with
    | .normal => (loopX f n x.1.2 x.2.1).map fun y => (y.1, y.2.1, x.2.2 ++ y.2.2)
    | _ => some x
def aroundsX (asg body : St → List El → Option (Ow (Xt × St))) (st1 : St) (ps : List Nat) : List (List PV) → St → List El → Option (Ow (Xt × St))
  | [], cur, s => some ((.normal, st1.after cur), s, [])
  | x :: xs, cur, s => (asg (putArgs ps x (st1.after cur)) s).bind fun y => match y.1.1 with
    | .normal => (body y.1.2 y.2.1).bind fun z => match z.1.1 with
      | .normal => (aroundsX asg body st1 ps xs z.1.2 z.2.1).map fun t => (t.1, t.2.1, y.2.2 ++ (z.2.2 ++ t.2.2))
      | e => some ((e, st1.after z.1.2), z.2.1, y.2.2 ++ z.2.2)
    | _ => none
def arunX (P : Program) (call : Nat → List PV → Option RV) (it : Nat → List PV → Option (Nat × List (List PV))) (k : Nat) (note : Nat → Note) : Code → St → List El → Option (Ow (Xt × St))
  | .skip, st, s => some ((.normal, st), s, [])
  | .region id ops dr, st, s => (aregionX P call ops.toList dr ((note id).still.foldl St.still1 st) s).map fun x => ((.normal, x.1.keepOnly (note id).keep), x.2)
  | .seq a b, st, s => (arunX P call it k note a st s).bind fun x => match x.1.1 with
    | .normal => (arunX P call it k note b x.1.2 x.2.1).map fun y => (y.1, y.2.1, x.2.2 ++ y.2.2)
    | _ => some x
  | .cond c t e, st, s => (st.val c).bind fun
    | .bool true => arunX P call it k note t st s
    | .bool false => arunX P call it k note e st s
    | _ => none
  | .block id c, st, s => (arunX P call it k note c st s).map fun x => match x.1.1 with
    | .exit j => if j = id then ((.normal, x.1.2), x.2) else x
    | _ => x
  | .loop c, st, s => match s with
    | .l x s1 :: s' => some ((x, s1), s', [loopN (arun P call it (fun g => loopN g k) note c) k st = some (x, s1)])
    | .u n :: s' => (loopX (arunX P call it k note c) n st s').map fun x => (x.1, x.2.1, (n ≤ k) :: x.2.2)
    | _ => none
  | .rangeFunc g ps asg body, st, s => (st.pv g).bind fun
    | .fn f caps => (it f caps).bind fun x => if x.1 = ps.size then
        aroundsX (arunX P call it k note asg) (arunX P call it k note body) (st.shed (ps.toList ++ (dstsOf asg ++ dstsOf body))) ps.toList x.2 (st.shed (ps.toList ++ (dstsOf asg ++ dstsOf body))) s else none
    | _ => none
  | .exit id, st, s => some ((.exit id, st), s, [])
  | .ret, st, s => some ((.ret, st), s, [])
  | _, _, _ => none
def abodyX (P : Program) (call : Nat → List PV → Option RV) (it : Nat → List PV → Option (Nat × List (List PV))) (k : Nat) (note : Nat → Note) (fn : Func) (args : List PV) (s : List El) : Option (RV × List Prop) :=
  fn.body.bind fun c => (arunX P call it k note c (.enter args) s).bind fun x => match x.1.1, x.2.1 with
    | .exit _, _ => none
    | _, [] => (aresults P x.1.2 fn.results.toList).map fun r => (r, x.2.2)
    | _, _ => none
section
variable {P : Program} {it : Nat → List PV → Option (Nat × List (List PV))} {call : Nat → List PV → Option RV} {k : Nat} {note : Nat → Note}
theorem quietX_ok {o : Oper} {st : St} {s s' : List El} {m : Made} {l : List Prop} (e : quietX P call o st s = some (m, s', l)) (hl : AllP l) : quiet P call o st = some m := by
  have dflt : ∀ {s : List El}, ((quiet P call o st).map fun m => (m, s, ([] : List Prop))) = some (m, s', l) → quiet P call o st = some m := fun e => by
    simp only [Option.map_eq_some_iff, Prod.mk.injEq] at e
    obtain ⟨q, hq, rfl, _, _⟩ := e
    exact hq
  unfold quietX at e
  split at e
  · rename_i op t x y p ho
    split at e
    · split at e
      · rename_i b s1
        simp only [Option.bind_eq_some_iff] at e
        obtain ⟨a, ha, b', hb, e⟩ := e
        split at e
        · rename_i c hc
          simp only [Option.some.injEq, Prod.mk.injEq] at e
          obtain ⟨rfl, rfl, rfl⟩ := e
          have : c = b := hl.1
          subst this
          simp only [quiet, ho, ha, hb, Option.bind_some, hc, mkd, Option.map_some]
        · simp at e
      · simp at e
    · exact dflt e
  · rename_i t x i ho
    simp only [Option.bind_eq_some_iff] at e
    obtain ⟨n, hn, e⟩ := e
    split at e
    · rename_i el hu
      simp only [Option.bind_eq_some_iff] at e
      obtain ⟨z, hz, e⟩ := e
      split at e
      · rename_i sz len cs hx
        split at e
        · rename_i hs
          simp only [Option.some.injEq, Prod.mk.injEq] at e
          obtain ⟨rfl, rfl, rfl⟩ := e
          simp only [quiet, ho, Option.bind_eq_some_iff]
          refine ⟨n, hn, ?_⟩
          simp only [hu, Option.bind_eq_some_iff]
          refine ⟨z, hz, ?_⟩
          simp only [hx]
          rw [if_pos ⟨hs, hl.1.1, hl.1.2⟩]
        · simp at e
      · rename_i u hx
        split at e
        · rename_i sz len cs hlu
          split at e
          · rename_i hs
            simp only [Option.some.injEq, Prod.mk.injEq] at e
            obtain ⟨rfl, rfl, rfl⟩ := e
            simp only [quiet, ho, Option.bind_eq_some_iff]
            refine ⟨n, hn, ?_⟩
            simp only [hu, Option.bind_eq_some_iff]
            refine ⟨z, hz, ?_⟩
            simp only [hx, hlu]
            rw [if_pos ⟨hs, hl.1.1, hl.1.2⟩]
          · simp at e
        · simp at e
      · simp at e
    · exact dflt e
  · rename_i t x lo hi mx ho
    split at e
    · rename_i sz n cs hx
      split at e
      · rename_i el1 el2 el hu
        split at e
        · rename_i hs
          simp only [Option.bind_eq_some_iff] at e
          obtain ⟨h, hh, lw, hlw, e⟩ := e
          simp only [Option.some.injEq, Prod.mk.injEq] at e
          obtain ⟨rfl, rfl, rfl⟩ := e
          simp only [quiet, ho, hx, hu]
          rw [if_pos hs]
          simp only [Option.bind_eq_some_iff]
          refine ⟨h, hh, lw, hlw, ?_⟩
          rw [if_pos hl.1]
        · simp at e
      · simp at e
    · exact dflt e
  · rename_i g args ts ho
    split at e
    · rename_i rv s1
      split at e
      · rename_i v hv
        simp only [Option.bind_eq_some_iff] at e
        obtain ⟨p, hp, e⟩ := e
        split at e
        · rename_i f caps
          simp only [Option.bind_eq_some_iff] at e
          obtain ⟨as, has, e⟩ := e
          split at e
          · rename_i hout
            split at e
            · rename_i hpl
              simp only [Option.some.injEq, Prod.mk.injEq] at e
              obtain ⟨rfl, rfl, rfl⟩ := e
              simp only [quiet, ho, hv, Option.bind_eq_some_iff]
              refine ⟨.fn f caps, hp, ?_⟩
              simp only [Option.bind_eq_some_iff]
              refine ⟨as, has, ?_⟩
              simp only [callOut, hl.1, Option.bind_some]
              rw [if_pos hout, if_pos hpl]
            · simp at e
          · rename_i hout
            simp only [Option.some.injEq, Prod.mk.injEq] at e
            obtain ⟨rfl, rfl, rfl⟩ := e
            simp only [quiet, ho, hv, Option.bind_eq_some_iff]
            refine ⟨.fn f caps, hp, ?_⟩
            simp only [Option.bind_eq_some_iff]
            refine ⟨as, has, ?_⟩
            simp only [callOut, hl.1, Option.bind_some]
            rw [if_neg hout]
        · simp at e
      · simp at e
    · simp at e
  · exact dflt e
theorem quietV_ok {o : Oper} {st : St} {s s' : List El} {m : Made} {l : List Prop} (e : quietV P call o st s = some (m, s', l)) (hl : AllP l) : quiet P call o st = some m := by
  unfold quietV at e
  split at e
  · split at e
    · simp only [Option.some.injEq, Prod.mk.injEq] at e
      obtain ⟨rfl, rfl, rfl⟩ := e
      exact hl.1
    · exact quietX_ok e hl
  · exact quietX_ok e hl
theorem effectX_ok {o : Oper} {st s : St} {sc sc' : List El} {l : List Prop} (e : effectX P o st sc = some (s, sc', l)) (hl : AllP l) : effect P o st = some s := by
  have dflt : ((effect P o st).map fun m => (m, sc, ([] : List Prop))) = some (s, sc', l) → effect P o st = some s := fun e => by
    simp only [Option.map_eq_some_iff, Prod.mk.injEq] at e
    obtain ⟨q, hq, rfl, _, _⟩ := e
    exact hq
  unfold effectX at e
  split at e
  · rename_i t a x ho
    split at e
    · rename_i u off ha
      split at e
      · rename_i hd
        split at e
        · rename_i sz n cs p hu hp
          split at e
          · rename_i hc
            simp only [Option.some.injEq, Prod.mk.injEq] at e
            obtain ⟨rfl, rfl, rfl⟩ := e
            simp only [effect, ho, if_pos hd, ha, hu, hp]
            rw [if_pos ⟨hc.1, hc.2, hl.1⟩]
          · simp at e
        · simp at e
      · simp at e
    · exact dflt e
  · rename_i t ln c ho
    split at e
    · rename_i b sc1
      rw [Option.bind_eq_some_iff] at e
      obtain ⟨d, hd, e⟩ := e
      split at e
      · rename_i el n m hu hn hm
        rw [Option.bind_eq_some_iff] at e
        obtain ⟨sz, hsz, e⟩ := e
        rw [Option.bind_eq_some_iff] at e
        obtain ⟨z, hz, e⟩ := e
        split at e
        · rename_i hc
          simp only [Option.some.injEq, Prod.mk.injEq] at e
          obtain ⟨rfl, rfl, rfl⟩ := e
          obtain ⟨⟨h1, h2, h3, h4⟩, h5, _⟩ := hl
          simp only [effect, ho, hd, Option.bind_some, hu, hn, hm, hsz, hz]
          rw [if_pos ⟨h1, h2, h3, h4, hc⟩]
          cases b with
          | true => rw [if_pos (by simpa using h5)]; rfl
          | false => rw [if_neg (by simpa using h5)]; rfl
        · simp at e
      · simp at e
    · simp at e
  · rename_i args ts ho
    rw [Option.bind_eq_some_iff] at e
    obtain ⟨d, hd, e⟩ := e
    split at e
    · rename_i x y T U ha hts
      split at e
      · rename_i el el' hT hU
        simp only [Option.bind_eq_some_iff] at e
        obtain ⟨sz, hsz, z, hz, p, hp, v, hv, u, ⟨p2, hp2, hu⟩, e⟩ := e
        split at e
        · rename_i hc
          simp only [effect, ho, hd, Option.bind_some, ha, hts, hT, hU, hsz, hz, hp, hv, hp2, hu]
          split at e
          · rename_i v0
            split at e
            · rename_i b sc1
              simp only [Option.some.injEq, Prod.mk.injEq] at e
              obtain ⟨rfl, rfl, rfl⟩ := e
              obtain ⟨⟨h1, h2⟩, ⟨h3, h4⟩, h5, _⟩ := hl
              rw [if_pos ⟨h1, h2, hc.1, hc.2, h3, h4⟩]
              cases b with
              | true => rw [if_pos (by simpa using h5)]; rfl
              | false => rw [if_neg (by simpa using h5)]; rfl
            · simp at e
          · rename_i hnl
            split at e
            · rename_i t
              simp only [Option.map_eq_some_iff, Prod.mk.injEq] at e
              obtain ⟨q, hq, rfl, rfl, rfl⟩ := e
              obtain ⟨⟨h1, h2⟩, ⟨h3, h4⟩, _⟩ := hl
              rw [if_pos ⟨h1, h2, hc.1, hc.2, h3, h4⟩]
              cases p with
              | lit v0 => exact absurd rfl (hnl v0)
              | _ =>
                exact Option.map_eq_some_iff.2 ⟨q, hq, rfl⟩
            · simp at e
        · simp at e
      · simp at e
    · simp at e
  · exact dflt e
theorem aopX_ok {o : Oper} {st s : St} {sc sc' : List El} {l : List Prop} (e : aopX P call o st sc = some (s, sc', l)) (hl : AllP l) : aop P call o st = some s := by
  unfold aopX at e
  unfold aop
  split at e
  · rename_i hq
    rw [if_pos hq]
    simp only [Option.map_eq_some_iff, Prod.mk.injEq] at e ⊢
    obtain ⟨⟨m, sc1, l'⟩, hm, rfl, h2⟩ := e
    simp only [Prod.mk.injEq] at h2
    obtain ⟨rfl, rfl⟩ := h2
    exact ⟨m, quietV_ok hm hl, rfl⟩
  · rename_i hq
    rw [if_neg hq]
    exact effectX_ok e hl
theorem aopsX_ok {ops : List Oper} : ∀ (l : List Oper) (st s : St) (sc sc' : List El) (ob : List Prop), aopsX P call ops l st sc = some (s, sc', ob) → AllP ob → aops (aop P call) ops l st = some s
  | [], st, s, sc, sc', ob, e, h => by simp only [aopsX, Option.some.injEq, Prod.mk.injEq] at e; simp [aops, e.1]
  | o :: l, st, s, sc, sc', ob, e, h => by
    simp only [aopsX, Option.bind_eq_some_iff] at e
    obtain ⟨b, hw, e⟩ := e
    simp only [aops, Option.bind_eq_some_iff]
    cases b with
    | true =>
      simp only [Option.bind_eq_some_iff, Option.map_eq_some_iff, Prod.mk.injEq] at e
      obtain ⟨⟨s1, sc1, l1⟩, ha, ⟨s2, sc2, l2⟩, hr, rfl, rfl, rfl⟩ := e
      obtain ⟨h2, h3⟩ := h.app
      exact ⟨true, hw, by simp only [Option.bind_eq_some_iff]; exact ⟨s1, aopX_ok ha h2, aopsX_ok l _ _ _ _ _ hr h3⟩⟩
    | false => exact ⟨false, hw, aopsX_ok l _ _ _ _ _ e h⟩
theorem quietDX_ok {o : Oper} {st : St} {s s' : List El} {m : Made} {l : List Prop} (e : quietDX P call o st s = some (m, s', l)) (hl : AllP l) : quietD P call o st = some m := by
  unfold quietDX at e
  split at e
  · simp only [Option.map_eq_some_iff, Prod.mk.injEq] at e
    obtain ⟨q, hq, rfl, _, _⟩ := e
    exact hq
  · simp only [Option.map_eq_some_iff, Prod.mk.injEq] at e
    obtain ⟨q, hq, rfl, _, _⟩ := e
    exact hq
  · rename_i hn1 hn2
    simp only [Option.bind_eq_some_iff] at e
    obtain ⟨⟨m0, s0, l0⟩, hm, e⟩ := e
    split at e
    · simp at e
    · rename_i hx
      simp only [Option.some.injEq, Prod.mk.injEq] at e
      obtain ⟨rfl, rfl, rfl⟩ := e
      have := quietV_ok hm hl
      unfold quietD
      split
      · rename_i ho; exact absurd ho (hn1 _)
      · rename_i ho; exact absurd ho (hn2 _)
      · simp only [Option.bind_eq_some_iff]
        exact ⟨m0, this, by rw [if_neg hx]⟩
theorem aopsDX_ok {ops : List Oper} : ∀ (l : List Oper) (st s : St) (sc sc' : List El) (ob : List Prop), aopsDX P call ops l st sc = some (s, sc', ob) → AllP ob → aopsD P call ops l st = some s
  | [], st, s, sc, sc', ob, e, h => by simp only [aopsDX, Option.some.injEq, Prod.mk.injEq] at e; simp [aopsD, e.1]
  | o :: l, st, s, sc, sc', ob, e, h => by
    simp only [aopsDX, Option.bind_eq_some_iff] at e
    obtain ⟨b, hw, e⟩ := e
    simp only [aopsD, Option.bind_eq_some_iff]
    cases b with
    | true =>
      simp only [Option.bind_eq_some_iff, Option.map_eq_some_iff, Prod.mk.injEq] at e
      obtain ⟨⟨s1, sc1, l1⟩, ha, ⟨s2, sc2, l2⟩, hr, rfl, rfl, rfl⟩ := e
      obtain ⟨h2, h3⟩ := h.app
      exact ⟨true, hw, by simp only [Option.bind_eq_some_iff]; exact ⟨s1, quietDX_ok ha h2, aopsDX_ok l _ _ _ _ _ hr h3⟩⟩
    | false => exact ⟨false, hw, aopsDX_ok l _ _ _ _ _ e h⟩
theorem aregionX_ok {ops : List Oper} {dr : Bool} {st s : St} {sc sc' : List El} {ob : List Prop} (e : aregionX P call ops dr st sc = some (s, sc', ob)) (h : AllP ob) : aregion P call ops dr st = some s := by
  unfold aregionX at e
  unfold aregion
  cases dr with
  | false => simp only [Bool.false_eq_true, if_false] at e ⊢; exact aopsX_ok _ _ _ _ _ _ e h
  | true =>
    simp only [if_true] at e ⊢
    split at e
    · rename_i hf
      rw [if_pos hf]
      simp only [Option.bind_eq_some_iff, Option.map_eq_some_iff, Prod.mk.injEq] at e ⊢
      obtain ⟨⟨s1, sc1, l1⟩, h1, s2, h2, ⟨s3, sc3, l3⟩, h3, rfl, rfl, rfl⟩ := e
      obtain ⟨k1, k3⟩ := h.app
      exact ⟨s1, aopsDX_ok _ _ _ _ _ _ h1 k1, s2, h2, aopsX_ok _ _ _ _ _ _ h3 k3⟩
    · simp at e
theorem loopX_ok {f : St → Option (Xt × St)} {g : St → List El → Option (Ow (Xt × St))} (hf : ∀ st s x s' ob, g st s = some (x, s', ob) → AllP ob → f st = some x) :
    ∀ (n k : Nat) (st : St) (s : List El) (x : Xt × St) (s' : List El) (ob : List Prop), n ≤ k → loopX g n st s = some (x, s', ob) → AllP ob → loopN f k st = some x
  | 0, k, st, s, x, s', ob, hk, e, h => by simp [loopX] at e
  | n + 1, 0, st, s, x, s', ob, hk, e, h => by omega
  | n + 1, k + 1, st, s, x, s', ob, hk, e, h => by
    simp only [loopX, Option.bind_eq_some_iff] at e
    obtain ⟨⟨⟨y, st1⟩, s1, l1⟩, h1, e⟩ := e
    simp only [loopN, Option.bind_eq_some_iff]
    cases y with
    | normal =>
      simp only [Option.map_eq_some_iff, Prod.mk.injEq] at e
      obtain ⟨⟨x2, s2, l2⟩, h2, rfl, rfl, rfl⟩ := e
      obtain ⟨k1, k2⟩ := h.app
      exact ⟨(.normal, st1), hf _ _ _ _ _ h1 k1, loopX_ok hf n k _ _ _ _ _ (by omega) h2 k2⟩
    | exit id =>
      simp only [Option.some.injEq, Prod.mk.injEq] at e
      obtain ⟨rfl, rfl, rfl⟩ := e
      exact ⟨(.exit id, st1), hf _ _ _ _ _ h1 h, rfl⟩
    | ret =>
      simp only [Option.some.injEq, Prod.mk.injEq] at e
      obtain ⟨rfl, rfl, rfl⟩ := e
      exact ⟨(.ret, st1), hf _ _ _ _ _ h1 h, rfl⟩
theorem aroundsX_ok {fa fb : St → Option (Xt × St)} {ga gb : St → List El → Option (Ow (Xt × St))} (ha : ∀ st s x s' ob, ga st s = some (x, s', ob) → AllP ob → fa st = some x) (hb : ∀ st s x s' ob, gb st s = some (x, s', ob) → AllP ob → fb st = some x) {st1 : St} {ps : List Nat} :
    ∀ (xs : List (List PV)) (cur : St) (s : List El) (x : Xt × St) (s' : List El) (ob : List Prop), aroundsX ga gb st1 ps xs cur s = some (x, s', ob) → AllP ob → arounds fa fb st1 ps xs cur = some x
  | [], cur, s, x, s', ob, e, h => by simp only [aroundsX, Option.some.injEq, Prod.mk.injEq] at e; simp [arounds, e.1]
  | y :: xs, cur, s, x, s', ob, e, h => by
    simp only [aroundsX, Option.bind_eq_some_iff] at e
    obtain ⟨⟨⟨t, sa⟩, s1, l1⟩, h1, e⟩ := e
    simp only [arounds, Option.bind_eq_some_iff]
    cases t with
    | exit id => simp at e
    | ret => simp at e
    | normal =>
      simp only [Option.bind_eq_some_iff] at e
      obtain ⟨⟨⟨t2, sb⟩, s2, l2⟩, h2, e⟩ := e
      cases t2 with
      | normal =>
        simp only [Option.map_eq_some_iff, Prod.mk.injEq] at e
        obtain ⟨⟨x3, s3, l3⟩, h3, rfl, rfl, rfl⟩ := e
        obtain ⟨k1, k23⟩ := h.app
        obtain ⟨k2, k3⟩ := k23.app
        refine ⟨(.normal, sa), ha _ _ _ _ _ h1 k1, ?_⟩
        simp only [Option.bind_eq_some_iff]
        exact ⟨(.normal, sb), hb _ _ _ _ _ h2 k2, aroundsX_ok ha hb xs _ _ _ _ _ h3 k3⟩
      | exit id =>
        simp only [Option.some.injEq, Prod.mk.injEq] at e
        obtain ⟨rfl, rfl, rfl⟩ := e
        obtain ⟨k1, k2⟩ := h.app
        refine ⟨(.normal, sa), ha _ _ _ _ _ h1 k1, ?_⟩
        simp only [Option.bind_eq_some_iff]
        exact ⟨(.exit id, sb), hb _ _ _ _ _ h2 k2, rfl⟩
      | ret =>
        simp only [Option.some.injEq, Prod.mk.injEq] at e
        obtain ⟨rfl, rfl, rfl⟩ := e
        obtain ⟨k1, k2⟩ := h.app
        refine ⟨(.normal, sa), ha _ _ _ _ _ h1 k1, ?_⟩
        simp only [Option.bind_eq_some_iff]
        exact ⟨(.ret, sb), hb _ _ _ _ _ h2 k2, rfl⟩
theorem arunX_ok : ∀ (c : Code) (st : St) (p : List El) (x : Xt × St) (p' : List El) (ob : List Prop), arunX P call it k note c st p = some (x, p', ob) → AllP ob → arun P call it (fun g => loopN g k) note c st = some x
  | .skip, st, p, x, p', ob, e, h => by simp only [arunX, Option.some.injEq, Prod.mk.injEq] at e; simp [arun, e.1]
  | .region id ops dr, st, p, x, p', ob, e, h => by
    simp only [arunX, Option.map_eq_some_iff, Prod.mk.injEq] at e
    obtain ⟨⟨s, p1, l⟩, hs, rfl, h2⟩ := e
    simp only [Prod.mk.injEq] at h2
    obtain ⟨rfl, rfl⟩ := h2
    simp only [arun, Option.map_eq_some_iff]
    exact ⟨s, aregionX_ok hs h, rfl⟩
  | .seq a b, st, p, x, p', ob, e, h => by
    simp only [arunX, Option.bind_eq_some_iff] at e
    obtain ⟨⟨⟨y, s⟩, p1, l1⟩, h1, e⟩ := e
    simp only [arun, Option.bind_eq_some_iff]
    cases y with
    | normal =>
      simp only [Option.map_eq_some_iff, Prod.mk.injEq] at e
      obtain ⟨⟨x2, p2, l2⟩, h2, rfl, rfl, rfl⟩ := e
      obtain ⟨k1, k2⟩ := h.app
      exact ⟨(.normal, s), arunX_ok a _ _ _ _ _ h1 k1, arunX_ok b _ _ _ _ _ h2 k2⟩
    | exit id =>
      simp only [Option.some.injEq, Prod.mk.injEq] at e
      obtain ⟨rfl, rfl, rfl⟩ := e
      exact ⟨(.exit id, s), arunX_ok a _ _ _ _ _ h1 h, rfl⟩
    | ret =>
      simp only [Option.some.injEq, Prod.mk.injEq] at e
      obtain ⟨rfl, rfl, rfl⟩ := e
      exact ⟨(.ret, s), arunX_ok a _ _ _ _ _ h1 h, rfl⟩
  | .cond c t el, st, p, x, p', ob, e, h => by
    simp only [arunX, Option.bind_eq_some_iff] at e
    obtain ⟨v, hv, e⟩ := e
    simp only [arun, Option.bind_eq_some_iff]
    refine ⟨v, hv, ?_⟩
    split at e
    · exact arunX_ok t _ _ _ _ _ e h
    · exact arunX_ok el _ _ _ _ _ e h
    · simp at e
  | .block id c, st, p, x, p', ob, e, h => by
    simp only [arunX, Option.map_eq_some_iff] at e
    obtain ⟨⟨⟨y, s⟩, p1, l1⟩, h1, e⟩ := e
    simp only [arun, Option.map_eq_some_iff]
    cases y with
    | normal =>
      simp only [Prod.mk.injEq] at e
      obtain ⟨rfl, rfl, rfl⟩ := e
      exact ⟨_, arunX_ok c _ _ _ _ _ h1 h, rfl⟩
    | ret =>
      simp only [Prod.mk.injEq] at e
      obtain ⟨rfl, rfl, rfl⟩ := e
      exact ⟨_, arunX_ok c _ _ _ _ _ h1 h, rfl⟩
    | exit j =>
      simp only at e
      split at e
      · rename_i hj
        simp only [Prod.mk.injEq] at e
        obtain ⟨rfl, rfl, rfl⟩ := e
        exact ⟨_, arunX_ok c _ _ _ _ _ h1 h, by simp only; rw [if_pos hj]⟩
      · rename_i hj
        simp only [Prod.mk.injEq] at e
        obtain ⟨rfl, rfl, rfl⟩ := e
        exact ⟨_, arunX_ok c _ _ _ _ _ h1 h, by simp only; rw [if_neg hj]⟩
  | .loop c, st, p, x, p', ob, e, h => by
    simp only [arunX] at e
    split at e
    · simp only [Option.some.injEq, Prod.mk.injEq] at e
      obtain ⟨rfl, rfl, rfl⟩ := e
      exact h.1
    · rename_i n s1
      simp only [Option.map_eq_some_iff, Prod.mk.injEq] at e
      obtain ⟨⟨x2, s2, l2⟩, h2, rfl, rfl, rfl⟩ := e
      exact loopX_ok (f := arun P call it (fun g => loopN g k) note c) (fun st s x s' ob e h => arunX_ok c st s x s' ob e h) n k _ _ _ _ _ h.1 h2 h.2
    · simp at e
  | .rangeFunc g ps asg body, st, p, x, p', ob, e, h => by
    simp only [arunX, Option.bind_eq_some_iff] at e
    obtain ⟨q, hq, e⟩ := e
    simp only [arun, Option.bind_eq_some_iff]
    refine ⟨q, hq, ?_⟩
    split at e
    · simp only [Option.bind_eq_some_iff] at e ⊢
      obtain ⟨y, hy, e⟩ := e
      refine ⟨y, hy, ?_⟩
      split at e
      · rename_i hn
        rw [if_pos hn]
        exact aroundsX_ok (fun st s x s' ob e h => arunX_ok asg st s x s' ob e h) (fun st s x s' ob e h => arunX_ok body st s x s' ob e h) _ _ _ _ _ _ e h
      · simp at e
    · simp at e
  | .exit id, st, p, x, p', ob, e, h => by simp only [arunX, Option.some.injEq, Prod.mk.injEq] at e; simp [arun, e.1]
  | .ret, st, p, x, p', ob, e, h => by simp only [arunX, Option.some.injEq, Prod.mk.injEq] at e; simp [arun, e.1]
  | .label _, _, _, _, _, _, e, _ => by simp [arunX] at e
  | .goto _, _, _, _, _, _, e, _ => by simp [arunX] at e
  | .scope _, _, _, _, _, _, e, _ => by simp [arunX] at e
theorem abodyX_ok {fn : Func} {args : List PV} {p : List El} {r : RV} {ob : List Prop} (e : abodyX P call it k note fn args p = some (r, ob)) (h : AllP ob) : abody P call it (fun g => loopN g k) note fn args = some r := by
  simp only [abodyX, Option.bind_eq_some_iff] at e
  obtain ⟨c, hc, ⟨⟨y, s⟩, p1, l1⟩, h1, e⟩ := e
  simp only [abody, Option.bind_eq_some_iff]
  refine ⟨c, hc, (y, s), ?_, ?_⟩
  · refine arunX_ok c _ _ _ _ _ h1 ?_
    cases y <;> cases p1 <;> simp at e
    all_goals (obtain ⟨r', _, rfl, rfl⟩ := e; exact h)
  · cases y <;> cases p1 <;> simp at e
    all_goals (obtain ⟨r', hr, rfl, rfl⟩ := e; exact hr)
end
end Go.Proofs.YtibbgjafjhcemaaDoor.Cul
