/- Part of a proof by an abstract machine for the program's code: lemmas, without conditions of their own beyond those that each states. -/
import Derived.Test.YtibbgjafjhcemaaDoorM5
set_option linter.unusedVariables false
set_option linter.unusedSimpArgs false
namespace Go.Proofs.YtibbgjafjhcemaaDoor.Cul
open Go Go.RowKit
section
variable {P : Program} {base : Nat} {w : World} {Pr : Prot} {bk : Key → Nat} {st : St} {a : Act} {N : Nat}

theorem run_indexAt_slice {t e : TypeId} {s : Nat} (hu : P.underlying t = some (.slice e)) (hs : sizeT P e = some s) (k : IntKind) (n : Int) (b o len cap : Nat) (h0 : 0 ≤ n) (h1 : n < len) :
    (Instr.indexAt t (.slice (some ⟨b, o, none⟩) len cap) (.int k n)).run P w = .ok (.pointer (some ⟨b, o + n.toNat * s, none⟩)) w := by
  simp [Instr.indexAt, asIntOf, run_under hu, h0, h1, run_sizeT hs, Addr.add_mid]
theorem run_indexAt_array {t e : TypeId} {s len : Nat} (hu : P.underlying t = some (.array len e)) (hs : sizeT P e = some s) (k : IntKind) (n : Int) (b o : Nat) (h0 : 0 ≤ n) (h1 : n < len) :
    (Instr.indexAt t (.pointer (some ⟨b, o, none⟩)) (.int k n)).run P w = .ok (.pointer (some ⟨b, o + n.toNat * s, none⟩)) w := by
  simp [Instr.indexAt, asIntOf, run_under hu, h0, h1, run_sizeT hs, Addr.add_mid, Instr.sureAddr]
theorem row_rp {cs : List PV} {vs : List Value} {b o sz n i : Nat} (hr : RpL w Pr cs vs) (h1 : One vs) (hc : w.rangeAt b o vs) (hp : ∀ i, i < vs.length → Pr b (o + i)) :
    Rp w Pr (.el (row cs sz i)) (.pointer (some ⟨b, o + i * sz, none⟩)) := by
  refine .el ((hr.drop (i * sz)).take sz) (fun v hv => h1 v (List.mem_of_mem_drop (List.mem_of_mem_take hv))) (rangeAt_take (rangeAt_drop hc _) _) (fun j hj => ?_)
  rw [Nat.add_assoc]
  refine hp _ ?_
  simp at hj; omega
theorem qok_indexAddr (I : Inv base w Pr bk st a N) {o : Oper} {m : Made} {call : Nat → List PV → Option RV} {t : TypeId} {x i : Operand} (ho : o.op = .indexAddr t x i) (h : quiet P call o st = some m) : QOk P base w Pr bk st a o m := by
  simp only [quiet, ho] at h
  rw [Option.bind_eq_some_iff] at h
  obtain ⟨n, hn, h⟩ := h
  obtain ⟨k, hk⟩ := int_eq I hn
  have he : ∀ v, (Instr.indexAt t (a.eval x) (.int k n)).run P w = .ok v w → (execOp a.eval o).run P w = .ok (.value v) w := fun v hv => by
    simp only [execOp, ho, hk]; exact run_v hv
  split at h
  · rename_i len e hu
    rw [Option.bind_eq_some_iff] at h
    obtain ⟨s, hs, h⟩ := h
    split at h
    · rename_i hb
      split at h
      · rename_i k' o' heq
        simp only [Option.some.injEq] at h; subst h
        exact qok_value I (he _ (by rw [ev_bp I heq]; exact run_indexAt_array hu hs k n _ _ hb.1 hb.2)) (madeOk_av (t := 0) (by simp) rfl)
      · rename_i cs heq
        simp only [Option.some.injEq] at h; subst h
        have hv := ev_pv I heq
        generalize hx : a.eval x = v at hv
        cases hv with
        | el hr h1 hc hp =>
          refine qok_value I (he _ (by rw [hx]; exact run_indexAt_array hu hs k n _ _ hb.1 hb.2)) (madeOk_pv (.el (hr.drop _) (fun v hv => h1 v (List.mem_of_mem_drop hv)) (rangeAt_drop hc _) (fun i hi => ?_)))
          rw [Nat.add_assoc]
          refine hp _ ?_
          simp at hi; omega
      · simp at h
    · simp at h
  · rename_i e hu
    rw [Option.bind_eq_some_iff] at h
    obtain ⟨s, hs, h⟩ := h
    split at h
    · rename_i sz len cs heq
      split at h
      · rename_i hb
        obtain ⟨rfl, hb0, hb1⟩ := hb
        simp only [Option.some.injEq] at h; subst h
        have hv := ev_pv I heq
        generalize hx : a.eval x = v at hv
        cases hv with
        | sl hr h1 hl hn hc hp => exact qok_value I (he _ (by rw [hx]; exact run_indexAt_slice hu hs k n _ _ _ _ hb0 hb1)) (madeOk_pv (row_rp (n := len) hr h1 hc hp))
        | sl0 => omega
      · simp at h
    · rename_i u heq
      split at h
      · rename_i sz len cs hl
        split at h
        · rename_i hb
          obtain ⟨rfl, hb0, hb1⟩ := hb
          simp only [Option.some.injEq] at h; subst h
          obtain ⟨h1, h2⟩ := ev_xr I heq
          obtain ⟨v, hv1, o', cap, vs, rfl, hv2⟩ := I.slots u _ hl
          rw [hv1] at h1
          have hx : a.eval x = _ := (Option.some.inj h1).symm
          exact qok_value I (he _ (by rw [hx]; exact run_indexAt_slice hu hs k n _ _ _ _ hb0 hb1)) (madeOk_av (t := 0) (by simp) ⟨⟨_, _, _, _, hv1, rfl⟩, h2⟩)
        · simp at h
      · simp at h
    · simp at h
  · simp at h
theorem qok_index (I : Inv base w Pr bk st a N) {o : Oper} {m : Made} {call : Nat → List PV → Option RV} {t : TypeId} {x i : Operand} (ho : o.op = .index t x i) (h : quiet P call o st = some m) : QOk P base w Pr bk st a o m := by
  simp only [quiet, ho] at h
  split at h
  · rename_i len e cs hu heq
    rw [Option.bind_eq_some_iff] at h
    obtain ⟨n, hn, h⟩ := h
    rw [Option.bind_eq_some_iff] at h
    obtain ⟨s, hs, h⟩ := h
    obtain ⟨k, hk⟩ := int_eq I hn
    split at h
    · rename_i hb
      have hv := pv_rp I heq
      generalize hx : a.eval x = v at hv
      cases hv with
      | ag hr h1 =>
        simp only [mkd, Option.map_eq_some_iff] at h
        obtain ⟨p, hp, rfl⟩ := h
        obtain ⟨v, hv1, hv2⟩ := takeT_part (P := P) hp hr h1
        refine qok_value I (v := v) ?_ (madeOk_pv hv2)
        simp only [execOp, ho, hk]
        refine run_v ?_
        simp [Instr.index, asIntOf, run_under hu, hx, hb.1, hb.2, run_sizeT hs, hv1]
    · simp at h
  · simp only [Option.bind_eq_some_iff] at h
    obtain ⟨p, hp, q, hq, h⟩ := h
    refine qok_pure I ?_ h
    simp only [execOp, ho, val_eq I hp, val_eq I hq]
theorem qok_load (I : Inv base w Pr bk st a N) {o : Oper} {m : Made} {call : Nat → List PV → Option RV} {t : TypeId} {x : Operand} (ho : o.op = .load t x) (h : quiet P call o st = some m) : QOk P base w Pr bk st a o m := by
  simp only [quiet, ho] at h
  have he : ∀ b o' v, a.eval x = .pointer (some ⟨b, o', none⟩) → (loadVar t ⟨b, o', none⟩).run P w = .ok v w → (execOp a.eval o).run P w = .ok (.value v) w := fun b o' v hx hv => by
    simp only [execOp, ho, hx]; exact run_v (by simpa [Instr.loadAt, Instr.sureAddr] using hv)
  split at h
  · rename_i k o' heq
    rw [Option.bind_eq_some_iff] at h
    obtain ⟨cs, hk, h⟩ := h
    simp only [Option.map_eq_some_iff] at h
    obtain ⟨p, hp, rfl⟩ := h
    obtain ⟨⟨T, vs, hv1, hv2, hv3⟩, hv4⟩ := I.boxes k cs hk
    have hc : w.rangeAt (bk (.bx k)) 0 vs := fun j v hj => by
      rw [cell_of_row w _ _ _ _ _ hv1]; simpa using hj
    obtain ⟨v, hl1, hl2, hl3⟩ := takeT_load (P := P) hp hv2 hv3 hc
    rw [Nat.zero_add] at hl1
    refine qok_value I (he _ _ _ (ev_bp I heq) hl1) ⟨fun _ _ => hl2, fun _ _ _ h => by simp at h, fun z h => by simp at h, fun q hq hg => ?_⟩
    simp only at hq
    split at hq
    · rename_i hcond
      simp only [Option.some.injEq] at hq; subst hq
      simp only [Bool.and_eq_true, Bool.not_eq_eq_eq_not, Bool.not_true] at hcond
      have := (hl3 hcond.1).1
      have h2 := hc o' v this
      simpa [placeVal] using h2
    · simp at hq
  · rename_i cs heq
    simp only [mkd, Option.map_eq_some_iff] at h
    obtain ⟨p, hp, rfl⟩ := h
    have hv := ev_pv I heq
    generalize hx : a.eval x = v at hv
    cases hv with
    | el hr h1 hc hpr =>
      obtain ⟨v, hl1, hl2, hl3⟩ := takeT_load (P := P) hp hr h1 hc
      exact qok_value I (he _ _ _ hx hl1) (madeOk_pv hl2)
  · rename_i u o' heq
    split at h
    · rename_i sz n cs hl
      simp only [mkd, Option.map_eq_some_iff] at h
      obtain ⟨p, hp, rfl⟩ := h
      obtain ⟨t', ⟨b, o2, n', cap', h1, h2⟩, h3⟩ := ev_rp I heq
      obtain ⟨v, hv1, o3, cap, vs, rfl, hv2, hv3, hv4, hv5, hv6⟩ := I.slots u _ hl
      rw [hv1] at h1
      simp only [Option.some.injEq, Value.slice.injEq, Addr.mk.injEq] at h1
      obtain ⟨⟨rfl, rfl, _⟩, _, _⟩ := h1
      obtain ⟨v, hl1, hl2, hl3⟩ := takeT_load (P := P) hp hv2 hv3 hv5
      exact qok_value I (he _ _ _ h2 hl1) (madeOk_pv hl2)
    · simp at h
  · simp at h
theorem qok_extract (I : Inv base w Pr bk st a N) {o : Oper} {m : Made} {call : Nat → List PV → Option RV} {x : Operand} {i : Nat} (ho : o.op = .extract x i) (h : quiet P call o st = some m) : QOk P base w Pr bk st a o m := by
  simp only [quiet, ho] at h
  split at h
  · rename_i ps heq
    simp only [mkd, Option.map_eq_some_iff] at h
    obtain ⟨p, hp, rfl⟩ := h
    have hv := pv_rp I heq
    generalize hx : a.eval x = v at hv
    cases hv with
    | tup hr =>
      obtain ⟨v, hv1, hv2⟩ := hr.get i p hp
      refine qok_value I (v := v) ?_ (madeOk_pv hv2)
      simp only [execOp, ho, hx]
      refine run_v ?_
      simp [Instr.extract, hv1]
  · simp at h
theorem capturedOf_rp (I : Inv base w Pr bk st a N) : ∀ {l : List Operand} {caps : List Cap}, capturedOf st l = some caps → (l.map a.eval).length = caps.length ∧ ∀ (i : Nat) (c : Cap) (u : Value), caps[i]? = some c → (l.map a.eval)[i]? = some u → CapRp w Pr bk c u
  | [], caps, h => by simp [capturedOf] at h; subst h; simp
  | x :: l, caps, h => by
    simp only [capturedOf] at h
    split at h
    · rename_i p heq
      simp only [Option.map_eq_some_iff] at h
      obtain ⟨cs, hcs, rfl⟩ := h
      obtain ⟨h1, h2⟩ := capturedOf_rp I hcs
      refine ⟨by simpa using h1, fun i c u hc hu => ?_⟩
      cases i with
      | zero => simp at hc hu; subst hc hu; exact ev_pv I heq
      | succ i => exact h2 i c u (by simpa using hc) (by simpa using hu)
    · rename_i k o heq
      simp only [Option.map_eq_some_iff] at h
      obtain ⟨cs, hcs, rfl⟩ := h
      obtain ⟨h1, h2⟩ := capturedOf_rp I hcs
      refine ⟨by simpa using h1, fun i c u hc hu => ?_⟩
      cases i with
      | zero => simp at hc hu; subst hc hu; exact ev_bp I heq
      | succ i => exact h2 i c u (by simpa using hc) (by simpa using hu)
    · simp at h
theorem qok_makeFunc (I : Inv base w Pr bk st a N) {o : Oper} {m : Made} {call : Nat → List PV → Option RV} {f : Fn} {first captured : Array Operand} (ho : o.op = .makeFunc f first captured) (h : quiet P call o st = some m) : QOk P base w Pr bk st a o m := by
  cases f with
  | func f' =>
    simp only [quiet, ho] at h
    split at h
    · rename_i h0
      simp only [Option.map_eq_some_iff] at h
      obtain ⟨caps, hc, rfl⟩ := h
      obtain ⟨h1, h2⟩ := capturedOf_rp I hc
      refine qok_value I (v := .func (.func f') #[] (captured.map a.eval)) ?_ (madeOk_av (t := 0) (by simp) ⟨captured.toList.map a.eval, ?_, h1, h2⟩)
      · simp only [execOp, ho]
        refine run_v ?_
        have : first = #[] := Array.eq_empty_of_size_eq_zero h0
        simp [Instr.makeFunc, this]
      · congr 1; exact Array.ext' (by simp)
    · simp at h
  | _ => simp [quiet, ho] at h
theorem qok_nilCheck (I : Inv base w Pr bk st a N) {o : Oper} {m : Made} {call : Nat → List PV → Option RV} {x : Operand} (ho : o.op = .nilCheck x) (h : quiet P call o st = some m) : QOk P base w Pr bk st a o m := by
  simp only [quiet, ho] at h
  split at h
  · rename_i k o' heq
    simp only [Option.some.injEq] at h; subst h
    have hx := ev_bp I heq
    exact qok_value I (v := a.eval x) (by simp [execOp, ho, hx]) (madeOk_av (t := 0) (by simp) hx)
  · rename_i cs heq
    simp only [Option.some.injEq] at h; subst h
    have hv := ev_pv I heq
    refine qok_value I (v := a.eval x) ?_ (madeOk_pv hv)
    generalize hx : a.eval x = v at hv
    cases hv with
    | el hr h1 hc hpr => simp [execOp, ho, hx]
  · rename_i f caps heq
    simp only [Option.some.injEq] at h; subst h
    have hv := ev_pv I heq
    refine qok_value I (v := a.eval x) ?_ (madeOk_pv hv)
    generalize hx : a.eval x = v at hv
    cases hv with
    | fn hr => simp [execOp, ho, hx]
  · simp at h
end
end Go.Proofs.YtibbgjafjhcemaaDoor.Cul
