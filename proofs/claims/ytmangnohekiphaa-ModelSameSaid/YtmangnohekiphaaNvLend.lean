/- An array of the call's own is lent to a function. -/
import Derived.Test.YtmangnohekiphaaNvRegion2
namespace Nv
open Go Go.RowKit

def retB : D → Bool
  | .asl 0 _ _ => true
  | d => scalarB (.pure d)
def renD (id : Nat) : D → D
  | .asl _ o l => .asl id o l
  | d => d
def lendD (P : Program) (H : List Ob) (ρ : Operand → D) (orc : List Res) (op : Op) : Option (D × List Ob × List Req × List Res) :=
  match op with
  | .call { callee := .value f, args := ⟨x :: xs⟩, argTypes := ⟨t :: ts⟩ } =>
    match ρ f, ρ x, orc with
    | .fn k cap, .asl id 0 m, .lnd _ _ _ g' d :: orc' => match H[id]? with
      | some (.arr wd n g) => bif callable P k && (argsD P H ts (xs.map ρ)).all pArg && Nat.beq xs.length ts.length && cap.all persB && !(xs.any fun y => ownA (ρ y)) && retB d then
          some (renD id d, H.set id (.arr wd n g'), [⟨true, k, .asl 0 0 m :: (argsD P H ts (xs.map ρ) ++ cap), .lnd wd n g g' d⟩], orc') else none
      | _ => none
    | _, _, _ => none
  | _ => none

section
variable {F : Fr} {c : Ctx} {id wd n : Nat} {g g' : Nat → List D} {w' : World} {I1 : Nat → Prop}
def Ctx.back (c : Ctx) (id : Nat) (o : Ob) (I1 : Nat → Prop) (w' : World) : Ctx := { I := fun b => c.I b ∨ I1 b, mu := c.mu, H := c.H.set id o, w := w' }
structure Lent (c : Ctx) (id : Nat) (I1 : Nat → Prop) (w' : World) : Prop where
  bel : Bel ⟨c.w, c.I, [c.mu id]⟩ w'
  fresh : Fresh c.I c.w w' I1
theorem Lent.blk (h : Lent c id I1 w') {k : Nat} (hk : k < c.w.heap.size) (hne : c.mu id ≠ some k) : w'.heap[k]? = c.w.heap[k]? :=
  h.bel.block k hk (by simp only [Fr.lent, List.mem_singleton]; exact fun e => hne e.symm)
theorem Lent.room (h : Lent c id I1 w') {b m : Nat} (hb : b < c.w.heap.size) (k : Room c.w b m) : Room w' b m := by
  obtain ⟨cs, T, h1, h2⟩ := k
  by_cases he : c.mu id = some b
  · obtain ⟨cs0, cs1, T1, h3, h4, h5⟩ := h.bel.shape b (by simp [Fr.lent, he])
    have h3 : c.w.heap[b]? = some (.cells cs0 T1 (0, 0)) := h3
    rw [h1] at h3
    cases h3
    exact ⟨cs1, T, h4, by omega⟩
  · exact ⟨cs, T, by rw [h.blk hb he]; exact h1, h2⟩
theorem back_pv (hI : Inv F c) (h : Lent c id I1 w') {v : Value} {d : D} (k : PV c.I c.w v d) : PV (c.back id (.arr wd n g') I1 w').I w' v d :=
  k.mono (fun _ h => .inl h) fun b hb => h.blk (hI.imm b hb).1 fun e => (hI.loc id b e).2.2 hb
theorem back_H (ho : c.H[id]? = some (.arr wd n g)) {i wd1 n1 : Nat} {f1 : Nat → List D} (h : c.H[i]? = some (.arr wd1 n1 f1)) : ∃ f2, (c.back id (.arr wd n g') I1 w').H[i]? = some (.arr wd1 n1 f2) := by
  obtain ⟨o3, h3, _, _, h4⟩ := put_H (o' := .arr wd n g') ho h ⟨rfl, rfl⟩
  obtain ⟨f', rfl⟩ := h4 _ _ _ rfl
  exact ⟨f', h3⟩
theorem back_cv (hI : Inv F c) (ho : c.H[id]? = some (.arr wd n g)) (h : Lent c id I1 w') {v : Value} {d : D} (k : CV c v d) : CV (c.back id (.arr wd n g') I1 w') v d := by
  cases d <;> simp only [CV] at k ⊢ <;> try exact back_pv hI h k
  · exact k
  · obtain ⟨b, wd1, n1, f1, hb, hH, hi, hv⟩ := k
    obtain ⟨f2, hH2⟩ := back_H (g' := g') (I1 := I1) (w' := w') ho hH
    exact ⟨b, wd1, n1, f2, hb, hH2, hi, hv⟩
  · obtain ⟨wd1, n1, f1, a, cap, hH, h2, h3, h4, h5⟩ := k
    obtain ⟨f2, hH2⟩ := back_H (g' := g') (I1 := I1) (w' := w') ho hH
    refine ⟨wd1, n1, f2, a, cap, hH2, h2, h3, h4, h5.imp (fun x => x) ?_⟩
    rintro ⟨b, hb, ha, hr⟩
    exact ⟨b, hb, ha, h.room (hI.loc _ b hb).2.1 hr⟩
theorem back_av (hI : Inv F c) (ho : c.H[id]? = some (.arr wd n g)) (h : Lent c id I1 w') {v : Value} {d : D} (k : AV c v d) : AV (c.back id (.arr wd n g') I1 w') v d := by
  cases d <;> simp only [AV] at k ⊢ <;> try exact back_cv hI ho h k
  · obtain ⟨vs, h1, h2⟩ := k; exact ⟨vs, h1, h2.mono fun _ _ => back_cv hI ho h⟩
  · obtain ⟨vs, h1, h2⟩ := k; exact ⟨vs, h1, h2.mono fun _ _ => back_cv hI ho h⟩
theorem back_tv (hI : Inv F c) (ho : c.H[id]? = some (.arr wd n g)) (h : Lent c id I1 w') {v : Value} {d : D} (k : TV c v d) : TV (c.back id (.arr wd n g') I1 w') v d := by
  cases d <;> simp only [TV] at k ⊢ <;> try exact back_av hI ho h k
  obtain ⟨vs, h1, h2⟩ := k; exact ⟨vs, h1, h2.mono fun _ _ => back_av hI ho h⟩
theorem back_inv (hI : Inv F c) (ho : c.H[id]? = some (.arr wd n g)) (h : Lent c id I1 w') (hov : OV (Lctx I1 (c.mu id) (.arr wd n g') w') (c.mu id) (.arr wd n g')) : Inv F (c.back id (.arr wd n g') I1 w') := by
  have hs : c.w.heap.size ≤ w'.heap.size := h.bel.size
  refine ⟨⟨h.bel.os.trans hI.below.os, h.bel.tape.trans hI.below.tape, h.bel.output.trans hI.below.output, Nat.le_trans hI.below.size hs, fun k hk hl => ?_, fun k hl => ?_⟩, fun b hb => ?_, fun i b hb => ?_, hI.inj, fun i o2 h2 => ?_, fun i hi => hI.dom i (by simpa [Ctx.back] using hi), hI.lent, fun hl => ?_⟩
  · refine (h.blk (Nat.lt_of_lt_of_le hk hI.below.size) fun e => ?_).trans (hI.below.block k hk hl)
    rcases (hI.loc id k e).1 with h1 | h1
    · omega
    · exact hl h1
  · obtain ⟨cs, cs', T, h1, h2, h3⟩ := hI.below.shape k hl
    by_cases he : c.mu id = some k
    · obtain ⟨cs0, cs1, T1, h4, h5, h6⟩ := h.bel.shape k (by simp [Fr.lent, he])
      have h4 : c.w.heap[k]? = some (.cells cs0 T1 (0, 0)) := h4
      rw [h2] at h4
      cases h4
      exact ⟨cs, cs1, T, h1, h5, by omega⟩
    · exact ⟨cs, cs', T, h1, (h.blk (hI.below.lt hl) he).trans h2, h3⟩
  · rcases hb with hb | hb
    · exact ⟨Nat.lt_of_lt_of_le (hI.imm b hb).1 hs, (hI.imm b hb).2⟩
    · rcases h.fresh b hb with h1 | ⟨h1, h2⟩
      · exact ⟨Nat.lt_of_lt_of_le (hI.imm b h1).1 hs, (hI.imm b h1).2⟩
      · exact ⟨h2, fun h3 => by have := hI.below.size; omega⟩
  · obtain ⟨h1, h2, h3⟩ := hI.loc i b hb
    refine ⟨h1, Nat.lt_of_lt_of_le h2 hs, fun h4 => ?_⟩
    rcases h4 with h4 | h4
    · exact h3 h4
    · rcases h.fresh b h4 with h5 | ⟨h5, _⟩
      · exact h3 h5
      · omega
  · show OV (c.back id (.arr wd n g') I1 w') (c.mu i) o2
    by_cases e : i = id
    · subst e
      have : o2 = .arr wd n g' := by
        simp only [Ctx.back] at h2
        rw [List.getElem?_set_self (List.getElem?_eq_some_iff.1 ho).1] at h2
        cases h2; rfl
      subst this
      refine ⟨hov.1, hov.2.imp (fun x => x) ?_⟩
      rintro ⟨b, cs, T, hb, h1, h2, h3⟩
      exact ⟨b, cs, T, hb, h1, h2, fun i hi j d hd => let ⟨v, hv, ho, hp⟩ := h3 i hi j d hd; ⟨v, hv, ho, hp.mono (fun _ h => .inr h) fun _ _ => rfl⟩⟩
    · have hH : c.H[i]? = some o2 := by simp only [Ctx.back] at h2; rw [List.getElem?_set_ne (Ne.symm e)] at h2; exact h2
      have hv := hI.obj i o2 hH
      have hne : ∀ k, c.mu i = some k → w'.heap[k]? = c.w.heap[k]? := fun k hk => h.blk (hI.loc i k hk).2.1 fun h3 => e (hI.inj i id k hk h3)
      cases o2 with
      | box cells =>
        obtain ⟨k, cs', T', hk, h1, h2⟩ := hv
        exact ⟨k, cs', T', hk, (hne k hk).trans h1, h2.mono fun _ _ => back_cv hI ho h⟩
      | arr wd2 n2 f2 =>
        refine ⟨hv.1, hv.2.imp (fun x => x) ?_⟩
        rintro ⟨k, cs', T', hk, h1, h2, h3⟩
        exact ⟨k, cs', T', hk, (hne k hk).trans h1, h2, fun i hi j d hd => let ⟨v, hv, ho, hp⟩ := h3 i hi j d hd; ⟨v, hv, ho, back_pv (wd := wd) (n := n) (g' := g') hI h hp⟩⟩
      | gone => exact hv
  · have h1 := hI.mark hl
    have hne : F.L.length ≠ id := fun e => by rw [e, ho] at h1; cases h1
    show (c.H.set id (.arr wd n g'))[F.L.length]? = _
    rw [List.getElem?_set_ne (Ne.symm hne)]
    exact h1
end

/-- The call. -/
theorem lend_ok {P : Program} {F : Fr} {c : Ctx} (hI : Inv F c) {o : Oper} {a : Act} {ρd : Operand → D} {orc orc' : List Res} {d : D} {H' : List Ob} {rq : List Req}
    (hρ : ∀ x ∈ o.op.operands.toList, TV c (a.eval x) (ρd x)) (h : lendD P c.H ρd orc o.op = some (d, H', rq, orc')) (hr : ∀ q ∈ rq, q.ok P)
    {K : Act → World → Prop} {Q : Exit → Act → World → Prop} (hK : ∀ v c', Inv F c' → c'.H = H' → (∀ u e, TV c u e → TV c' u e) → TV c' v d → K (a.put o.dst v) c'.w) : o.wp P a c.w K Q := by
  unfold lendD at h
  split at h <;> try cases h
  rename_i f x xs t ts hop
  split at h <;> try cases h
  rename_i k cap id m wd0 n0 g0 g' d0 orc1 hfn hx
  split at h <;> try cases h
  rename_i wd n g ho
  cases hcond : (callable P k && (argsD P c.H ts (xs.map ρd)).all pArg && Nat.beq xs.length ts.length && cap.all persB && !(xs.any fun y => ownA (ρd y)) && retB d0) with
  | false => rw [hcond] at h; cases h
  | true =>
    rw [hcond] at h
    simp only [cond_true, Option.some.injEq, Prod.mk.injEq] at h
    obtain ⟨rfl, rfl, rfl, rfl⟩ := h
    simp only [Bool.and_eq_true, Bool.not_eq_true'] at hcond
    obtain ⟨⟨⟨⟨⟨hcall, hpa⟩, hsz⟩, hcp⟩, hown⟩, hret⟩ := hcond
    have hsz := Nat.eq_of_beq_eq_true hsz
    have hF : FnM P k _ wd n g g' d0 := hr _ (List.mem_singleton.2 rfl) rfl
    have hf := hρ f (by simp [hop, Op.operands, Call.operands])
    rw [hfn] at hf
    obtain ⟨vs, hfv, hvs⟩ := hf
    have hxv := hρ x (by simp [hop, Op.operands, Call.operands])
    rw [hx] at hxv
    have hargs : ∀ y ∈ xs, TV c (a.eval y) (ρd y) := fun y hy => hρ y (by simp [hop, Op.operands, Call.operands, hy])
    have hrun : (execOp a.eval o).run P c.w = .ok (.enter k (#[a.eval x] ++ (xs.map a.eval).toArray ++ vs)) c.w := by
      simp [execOp, hop, resolve, hfv, Deferred.ofValue, invoke, callable_run hcall]
    unfold Oper.wp
    rw [hrun]
    have hv1 := argsD_vs (P := P) (c := c) (I := c.I) (ρc := a.eval) (ρd := ρd) ts xs hsz hargs hpa
      (fun t d v e h1 h2 h3 => normC_I h1 h2 (by
        cases he : ownC e with
        | false => rfl
        | true =>
          obtain ⟨y, hy, h4, rfl⟩ := h3 he
          rw [ownA_adj] at h4
          exact absurd h4 (List.any_eq_false.1 hown y hy))) (fun _ h => h)
    have hv2 : Vs (AV (NoCtx c.I c.w)) vs cap := ⟨hvs.1, fun i v d h1 h2 => av_of_cv (nopv (pers_pv (List.all_eq_true.1 hcp d (List.mem_of_getElem? h2)) (hvs.2 i v d h1 h2)))⟩
    have hv3 : Vs (AV (Lctx c.I (c.mu id) (.arr wd n g) c.w)) ((xs.map a.eval).toArray ++ vs) (argsD P c.H ts (xs.map ρd) ++ cap) := (vs_append hv1 hv2).mono fun _ _ => noav fun _ h => h
    have hv0 : Vs (AV (Lctx c.I (c.mu id) (.arr wd n g) c.w)) #[a.eval x] [.asl 0 0 m] := ⟨rfl, fun i v d h1 h2 => by
      cases i with
      | succ i => simp at h2
      | zero =>
        simp at h1 h2
        subst h1; subst h2
        simp only [TV, AV, CV] at hxv ⊢
        obtain ⟨wd1, n1, f1, a1, cap1, hH, h2, h3, h4, h5⟩ := hxv
        rw [ho] at hH
        cases hH
        exact ⟨wd, n, g, a1, cap1, rfl, h2, h3, h4, h5.imp (fun x => x) fun ⟨b, hb, h6, h7⟩ => ⟨b, hb, by simpa using h6, by simpa [Lctx] using h7⟩⟩⟩
    have hv := vs_append hv0 hv3
    rw [← Array.append_assoc] at hv
    have hob := hI.obj id _ ho
    refine Calls.mono (hF c.I c.w (c.mu id) _ (fun b hb => (hI.imm b hb).1) (fun b hb => ⟨(hI.loc id b hb).2.1, (hI.loc id b hb).2.2⟩) hob hv) ?_
    rintro e w' ⟨v, I1, rfl, hbel, hfr, hov, hrv⟩
    have hL : Lent c id I1 w' := ⟨hbel, hfr⟩
    refine hK v (c.back id (.arr wd n g') I1 w') (back_inv hI ho hL hov) rfl (fun u e h => back_tv hI ho hL h) ?_
    unfold retB at hret
    split at hret
    · simp only [renD, TV, AV, CV] at hrv ⊢
      obtain ⟨wd1, n1, f1, a1, cap1, hH, h2, h3, h4, h5⟩ := hrv
      cases hH
      refine ⟨wd, n, g', a1, cap1, ?_, h2, h3, h4, h5.imp (fun x => x) fun ⟨b, hb, h6, h7⟩ => ⟨b, hb, h6, h7⟩⟩
      show (c.H.set id (.arr wd n g'))[id]? = _
      rw [List.getElem?_set_self (List.getElem?_eq_some_iff.1 ho).1]
    · have : renD id d0 = d0 := by cases d0 <;> first | rfl | simp [scalarB, scalarC] at hret
      rw [this]
      exact scalar_tv hret hrv
end Nv
