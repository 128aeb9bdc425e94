/- One operation of a region, carried out. -/
import Derived.Test.YtmangnohekiphaaNvRegion
namespace Nv
open Go Go.RowKit

def After (c c' : Ctx) (v : Value) : Res → Prop
  | .pure d => Goes c c' ∧ Below c.w.heap.size c.w c'.w ∧ TV c' v d
  | .own wd n g => c'.H = c.H ++ [.arr wd n g] ∧ (∀ u e, TV c u e → TV c' u e) ∧ TV c' v (.asl c.H.length 0 n)
  | .lnd _ _ _ _ _ => False

theorem callable_run {P : Program} {k : FuncId} (h : callable P k = true) (args : Array Value) (w : World) : (callFunc k args).run P w = .ok (.enter k args) w := by
  unfold callable at h
  split at h <;> try cases h
  rename_i fn hf
  simp only [Bool.and_eq_true, Bool.not_eq_true'] at h
  obtain ⟨h1, h2⟩ := h
  have h1' : ¬ fn.name = "runtime.NumGoroutine" := by simpa using h1
  have h3 : ¬ fn.body = none := by intro e; simp [e] at h2
  simp [callFunc, hf, h1', h3]

/-- Persistent results join the context. -/
def Ctx.join (c : Ctx) (I1 : Nat → Prop) (w' : World) : Ctx := { c with I := fun b => c.I b ∨ I1 b, w := w' }

theorem fresh_lt {F : Fr} {c : Ctx} (hI : Inv F c) {I0 I1 : Nat → Prop} {w' : World} (hb : Below c.w.heap.size c.w w') (hf : Fresh I0 c.w w' I1) (h0 : ∀ b, I0 b → c.I b) :
    (∀ b, (c.I b ∨ I1 b) → c.I b ∨ (c.w.heap.size ≤ b ∧ b < w'.heap.size)) ∧ Goes c (c.join I1 w') ∧ Inv F (c.join I1 w') := by
  have h1 : ∀ b, (c.I b ∨ I1 b) → c.I b ∨ (c.w.heap.size ≤ b ∧ b < w'.heap.size) := fun b h => by
    rcases h with h | h
    · exact .inl h
    · exact (hf b h).imp (h0 b) id
  have hg : Goes c (c.join I1 w') := ⟨rfl, rfl, fun _ h => .inl h, fun b hb' => hb.block b hb', fun b hb' => (hI.imm b hb').1, fun id b hb' => (hI.loc id b hb').2.1⟩
  exact ⟨h1, hg, hI.goes hg hb h1⟩

/-- A new slice of one's own joins the objects. -/
theorem own_join {F : Fr} {c : Ctx} (hI : Inv F c) {I1 : Nat → Prop} {w' : World} (hb : Below c.w.heap.size c.w w') (hf : Fresh c.I c.w w' I1) {v : Value} {wd n : Nat} {g : Nat → List D}
    (ho : Own I1 c.w.heap.size w' v wd n g) : ∃ c', c'.w = w' ∧ Inv F c' ∧ After c c' v (.own wd n g) := by
  obtain ⟨h1, hg, hI'⟩ := fresh_lt hI hb hf (fun _ h => h)
  obtain ⟨a, cap, rfl, hn, hlen, hor⟩ := ho
  rcases hor with rfl | ⟨b, cs, T, rfl, hB, hlt, hnI, hh, hcs, hcells⟩
  · have hn0 : n = 0 := by omega
    subst hn0
    refine ⟨(c.join I1 w').made0 (.arr wd 0 g), rfl, made0_inv hI' wd g, rfl, fun u e h => made0_tv _ (hg.tv h), ?_⟩
    simp only [TV, AV, CV]
    exact ⟨wd, 0, g, a, 0, by simp [Ctx.made0, Ctx.join], Nat.le_refl _, rfl, Nat.le_refl _, .inl rfl⟩
  · let c' : Ctx := { I := (c.join I1 w').I, mu := fun i => if i = c.H.length then some b else c.mu i, H := c.H ++ [.arr wd n g], w := w' }
    have hnb : ¬ (c.join I1 w').I b := by
      rintro (h | h)
      · have := (hI.imm b h).1; omega
      · exact hnI h
    have hmu : ∀ {id k : Nat}, c.mu id = some k → c'.mu id = some k := fun {id k} h => by
      show (if id = c.H.length then some b else c.mu id) = some k
      rw [if_neg]
      · exact h
      · intro e
        rw [hI.dom id (by omega)] at h
        cases h
    have hH : ∀ {id : Nat} {o : Ob}, c.H[id]? = some o → c'.H[id]? = some o := fun {id o} h => by
      show (c.H ++ [.arr wd n g])[id]? = some o
      rw [List.getElem?_append_left (List.getElem?_eq_some_iff.1 h).1]
      exact h
    have hcv : ∀ u e, CV (c.join I1 w') u e → CV c' u e := fun u e h => by
      cases e <;> simp only [CV] at h ⊢ <;> try exact h
      · obtain ⟨k, hk, hu⟩ := h; exact ⟨k, hmu hk, hu⟩
      · obtain ⟨k, w1, n1, f1, hk, h2, h3, hu⟩ := h; exact ⟨k, w1, n1, f1, hmu hk, hH h2, h3, hu⟩
      · obtain ⟨w1, n1, f1, a1, c1, h2, h3, h4, h5, h6⟩ := h
        exact ⟨w1, n1, f1, a1, c1, hH h2, h3, h4, h5, h6.imp id fun ⟨k, hk, h7, h8⟩ => ⟨k, hmu hk, h7, h8⟩⟩
    have hav : ∀ u e, AV (c.join I1 w') u e → AV c' u e := fun u e h => by
      cases e <;> simp only [AV] at h ⊢ <;> try exact hcv _ _ h
      · obtain ⟨vs, h1, h2⟩ := h; exact ⟨vs, h1, h2.mono fun _ _ => hcv _ _⟩
      · obtain ⟨vs, h1, h2⟩ := h; exact ⟨vs, h1, h2.mono fun _ _ => hcv _ _⟩
    have htv : ∀ u e, TV (c.join I1 w') u e → TV c' u e := fun u e h => by
      cases e <;> simp only [TV] at h ⊢ <;> try exact hav _ _ h
      obtain ⟨vs, h1, h2⟩ := h; exact ⟨vs, h1, h2.mono fun _ _ => hav _ _⟩
    refine ⟨c', rfl, ⟨hI'.below, hI'.imm, fun id k hk => ?_, fun i j k h2 h3 => ?_, fun id o h => ?_, fun id hid => ?_, fun i v hv => ?_, fun hl => hH (hI.mark hl)⟩, rfl, fun u e h => htv u e (hg.tv h), ?_⟩
    · have hk : (if id = c.H.length then some b else c.mu id) = some k := hk
      split at hk
      · cases hk
        exact ⟨.inl (Nat.le_trans hI.below.size hB), hlt, hnb⟩
      · exact hI'.loc id k hk
    · have h2 : (if i = c.H.length then some b else c.mu i) = some k := h2
      have h3 : (if j = c.H.length then some b else c.mu j) = some k := h3
      split at h2 <;> split at h3
      · omega
      · cases h2; have := (hI.loc j _ h3).2.1; omega
      · cases h3; have := (hI.loc i _ h2).2.1; omega
      · exact hI.inj i j k h2 h3
    · by_cases hid : id = c.H.length
      · subst hid
        have : o = .arr wd n g := by
          have h : (c.H ++ [.arr wd n g])[c.H.length]? = some o := h
          simp at h
          exact h.symm
        subst this
        have e : c'.mu c.H.length = some b := by show (if c.H.length = c.H.length then some b else _) = _; simp
        rw [e]
        exact ⟨hlen, .inr ⟨b, cs, T, rfl, hh, Nat.le_trans (Nat.mul_le_mul_right _ hn) hcs, fun i hi j d hd => let ⟨u, h1, h2, h3⟩ := hcells i hi j d hd; ⟨u, h1, h2, h3.mono (fun _ h => .inr h) fun _ _ => rfl⟩⟩⟩
      · have hH0 : c.H[id]? = some o := by
          have h : (c.H ++ [.arr wd n g])[id]? = some o := h
          have hl := (List.getElem?_eq_some_iff.1 h).1
          simp at hl
          rw [List.getElem?_append_left (by omega)] at h
          exact h
        have hv := hI'.obj id o hH0
        have e : c'.mu id = c.mu id := by show (if id = c.H.length then some b else _) = _; simp [hid]
        rw [e]
        cases o with
        | box cells => obtain ⟨k, cs', T', hk, h2, h3⟩ := hv; exact ⟨k, cs', T', hk, h2, h3.mono fun _ _ => hcv _ _⟩
        | arr w1 n1 f1 => exact hv
        | gone => exact hv
    · show (if id = c.H.length then some b else c.mu id) = none
      have hid : (c.H ++ [Ob.arr wd n g]).length ≤ id := hid
      simp at hid
      rw [if_neg (by omega)]
      exact hI.dom id (by omega)
    · have h1 := hI.lent i v hv
      have hlt : i < c.H.length := by
        have h2 := (List.getElem?_eq_some_iff.1 hv).1
        have h3 := (List.getElem?_eq_some_iff.1 (hI.mark (by intro e; rw [e] at h2; simp at h2))).1
        omega
      show (if i = c.H.length then some b else c.mu i) = v
      rw [if_neg (by omega)]
      exact h1
    · simp only [TV, AV, CV]
      refine ⟨wd, n, g, _, cap, by show (c.H ++ [.arr wd n g])[c.H.length]? = _; simp, by omega, rfl, hn, .inr ⟨b, by show (if c.H.length = c.H.length then some b else _) = _; simp, by simp, cs, T, hh, by simpa using hcs⟩⟩

theorem scalar_tv {c c' : Ctx} {v : Value} {d : D} (hs : scalarB (.pure d) = true) (h : TV c v d) : TV c' v d := by
  have key : ∀ u e, scalarC e = true → AV c u e → AV c' u e := fun u e hs h => by
    cases e <;> simp [scalarC] at hs <;> simp only [AV, CV] at h ⊢ <;> cases h <;> first | exact .int _ _ | exact .bool _ | exact .str _
  cases d <;> simp only [scalarB, scalarC, Bool.false_eq_true] at hs
  · obtain rfl := h.int_inv; exact tv_int _ _
  · obtain rfl := h.bool_inv; exact tv_bool _
  · obtain rfl := h.str_inv; exact tv_str _
  · obtain ⟨vs, h1, h2⟩ := h
    refine ⟨vs, h1, h2.1, fun i v d h3 h4 => key v d (List.all_eq_true.1 hs d (List.mem_of_getElem? h4)) (h2.2 i v d h3 h4)⟩

theorem argsD_vs {P : Program} {c : Ctx} {I : Nat → Prop} {ρc : Operand → Value} {ρd : Operand → D} : ∀ (ts : List TypeId) (xs : List Operand), xs.length = ts.length →
    (∀ x ∈ xs, TV c (ρc x) (ρd x)) → (argsD P c.H ts (xs.map ρd)).all pArg = true →
    (∀ t d v e, CV c v e → persB (normC c.H e) = true → (ownC e = true → ∃ x ∈ xs, ownA (adj P t d) = true ∧ d = ρd x) → PV I c.w v (normC c.H e)) → (∀ b, c.I b → I b) →
    Vs (AV (NoCtx I c.w)) (xs.map ρc).toArray (argsD P c.H ts (xs.map ρd))
  | [], [], _, _, _, _, _ => ⟨by simp [argsD], fun i v d h1 _ => by simp at h1⟩
  | [], x :: xs, h, _, _, _, _ => by simp at h
  | t :: ts, [], h, _, _, _, _ => by simp at h
  | t :: ts, x :: xs, hl, hx, hp, hc, hII => by
    simp only [List.map_cons, argsD, List.all_cons, Bool.and_eq_true] at hp
    have ih := argsD_vs (P := P) (c := c) (I := I) (ρc := ρc) (ρd := ρd) ts xs (by simpa using hl) (fun y hy => hx y (List.mem_cons_of_mem _ hy)) hp.2
      (fun t d v e h1 h2 h3 => hc t d v e h1 h2 fun h4 => let ⟨y, hy, h5⟩ := h3 h4; ⟨y, List.mem_cons_of_mem _ hy, h5⟩) hII
    have h0 := normA_ok (I := I) (hx x (List.mem_cons_self)) hp.1 (fun v e h1 h2 h3 => hc t (ρd x) v e h1 h2 fun h4 => ⟨x, List.mem_cons_self, h3 h4, rfl⟩) hII
    refine ⟨by simp [argsD, ih.1.symm], fun i v d h1 h2 => ?_⟩
    cases i with
    | zero =>
      simp at h1
      simp only [List.map_cons, argsD, List.getElem?_cons_zero, Option.some.injEq] at h2
      subst h1; subst h2
      exact h0
    | succ i =>
      simp only [List.map_cons, argsD, List.getElem?_cons_succ] at h2
      exact ih.2 i v d (by simpa using h1) h2

theorem ownA_adj (P : Program) (t : TypeId) (d : D) : ownA (adj P t d) = ownA d := by
  cases d <;> first | rfl | skip
  simp only [adj]
  split <;> rfl

theorem vs_append {R : Value → D → Prop} {v1 v2 : Array Value} {d1 d2 : List D} (h1 : Vs R v1 d1) (h2 : Vs R v2 d2) : Vs R (v1 ++ v2) (d1 ++ d2) := by
  refine ⟨by simp [h1.1, h2.1], fun i v d h3 h4 => ?_⟩
  rcases Nat.lt_or_ge i v1.size with h | h
  · rw [Array.getElem?_append_left h] at h3
    rw [List.getElem?_append_left (by rw [← h1.1]; exact h)] at h4
    exact h1.2 i v d h3 h4
  · rw [Array.getElem?_append_right h] at h3
    rw [List.getElem?_append_right (by rw [← h1.1]; exact h), ← h1.1] at h4
    exact h2.2 _ v d h3 h4

/-- One operation, carried out where its guard lets it. -/
theorem op_sound {P : Program} {F : Fr} {c : Ctx} (hI : Inv F c) {ops : Array Oper} {o : Oper} {a : Act} {env : List (Nat × D)} {orc orc' : List Res} {g : Bool} {r : Res} {bs : List Bool} {rq : List Req}
    (hops : ∀ x ∈ o.op.operands.toList, GV (yielded ops a.tmps) c (a.eval x) (evD env x)) (hgf : GuardFacts ops a c env (gch ops 20 o.guard)) (hg : gEval ops env (gch ops 20 o.guard) = some g)
    (hw : Region.wanted o (yielded ops a.tmps) = true) (h : opD P c.H ops env (gch ops 20 o.guard) orc g o = some (r, bs, rq, orc')) (hb : ∀ b ∈ bs, b = true) (hr : ∀ q ∈ rq, q.ok P)
    {K : Act → World → Prop} {Q : Exit → Act → World → Prop} (hK : ∀ v c', Inv F c' → After c c' v r → K (a.put o.dst v) c'.w) : o.wp P a c.w K Q := by
  obtain ⟨hal, hgt⟩ := chain_ok (c := c) (a := a) 20 o.guard g hgf hg (fun j w e => by simpa [Region.wanted, e] using hw)
  subst hgt
  have hρ : ∀ x ∈ o.op.operands.toList, TV c (a.eval x) (unwrap (gch ops 20 o.guard) (evD env x)) := fun x hx => unwrap_ok hal (hops x hx)
  unfold opD at h
  split at h
  · rename_i cd x y hop
    obtain ⟨d, hd, heq⟩ := Option.map_eq_some_iff.1 h
    simp only [Prod.mk.injEq] at heq
    obtain ⟨rfl, rfl, rfl, rfl⟩ := heq
    unfold pickD at hd
    split at hd <;> try cases hd
    rename_i b hb0
    have hc := hρ cd (by simp [hop, Op.operands])
    rw [hb0] at hc
    have hcb := hc.bool_inv
    split at hd <;> try cases hd
    rename_i p q hp hq
    have key : ∃ v, (execOp a.eval o).run P c.w = .ok (.value v) c.w ∧ TV c v (.bool (bif b then p else q)) := by
      refine ⟨if b then a.eval x else a.eval y, by simp [execOp, hop, hcb, asBool], ?_⟩
      cases b with
      | true =>
        have := unwrapT_ok hal hcb (hops x (by simp [hop, Op.operands]))
        rw [hp] at this
        simpa using this
      | false =>
        have := unwrapT_ok hal hcb (hops y (by simp [hop, Op.operands]))
        rw [hq] at this
        simpa using this
    have hdd : TV c (.bool (bif b then p else q)) d := by
      cases hf : isFalse y with
      | true =>
        simp only [hf, cond_true, Option.some.injEq] at hd
        subst hd
        have hy : y = .const (.bool false) := by
          unfold isFalse at hf
          split at hf
          · rfl
          · cases hf
        subst hy
        simp only [evD, dv, dvc, unwrapT, unwrap, D.bool.injEq] at hq
        subst hq
        cases b <;> exact tv_bool _
      | false =>
        simp only [hf, cond_false] at hd
        cases ht : isTrue x with
        | true =>
          simp only [ht, cond_true, Option.some.injEq] at hd
          subst hd
          have hx : x = .const (.bool true) := by
            unfold isTrue at ht
            split at ht
            · rfl
            · cases ht
          subst hx
          simp only [evD, dv, dvc, unwrapT, unwrap, D.bool.injEq] at hp
          subst hp
          cases b <;> exact tv_bool _
        | false =>
          simp only [ht, cond_false, Option.some.injEq] at hd
          subst hd
          exact tv_bool _
    obtain ⟨v, h1, h2⟩ := key
    have := h2.bool_inv
    subst this
    unfold Oper.wp
    rw [h1]
    exact hK _ c hI ⟨Goes.refl hI, Below.refl _ _, hdd⟩
  · rename_i f args ts hop
    split at h <;> try cases h
    rename_i k cap r0 orc0 hfn
    cases hcond : (callable P k && (argsD P c.H ts.toList (args.toList.map fun x => unwrap (gch ops 20 o.guard) (evD env x))).all pArg && Nat.beq args.size ts.size && cap.all persB &&
          (scalarB r0 || !(args.toList.any fun x => ownA (unwrap (gch ops 20 o.guard) (evD env x)))) && notMut r0) with
    | false => rw [hcond] at h; cases h
    | true =>
      rw [hcond] at h
      simp only [cond_true, Option.some.injEq, Prod.mk.injEq] at h
      obtain ⟨rfl, rfl, rfl, rfl⟩ := h
      simp only [Bool.and_eq_true] at hcond
      obtain ⟨⟨⟨⟨⟨hcall, hpa⟩, hsz⟩, hcp⟩, hso⟩, hnm⟩ := hcond
      have hsz := Nat.eq_of_beq_eq_true hsz
      have hF : Fn P k (argsD P c.H ts.toList (args.toList.map fun x => unwrap (gch ops 20 o.guard) (evD env x)) ++ cap) r0 := by
        have h1 := hr _ (List.mem_singleton.2 rfl)
        cases r0 <;> first | exact h1 rfl | cases hnm
      have hf := hρ f (by simp [hop, Op.operands, Call.operands])
      rw [hfn] at hf
      obtain ⟨vs, hfv, hvs⟩ := hf
      have hargs : ∀ x ∈ args.toList, TV c (a.eval x) (unwrap (gch ops 20 o.guard) (evD env x)) := fun x hx => hρ x (by
        simp only [hop, Op.operands, Call.operands, Array.toList_append, List.mem_append]
        exact .inr hx)
      have hrun : (execOp a.eval o).run P c.w = .ok (.enter k ((args.toList.map a.eval).toArray ++ vs)) c.w := by
        have e : args.map a.eval = (args.toList.map a.eval).toArray := by
          apply Array.ext'
          simp
        simp [execOp, hop, resolve, hfv, Deferred.ofValue, invoke, callable_run hcall, e]
      unfold Oper.wp
      rw [hrun]
      cases hown : (args.toList.any fun x => ownA (unwrap (gch ops 20 o.guard) (evD env x))) with
      | false =>
        have hv1 := argsD_vs (P := P) (c := c) (I := c.I) (ρc := a.eval) (ρd := fun x => unwrap (gch ops 20 o.guard) (evD env x)) ts.toList args.toList (by simpa using hsz) hargs hpa
          (fun t d v e h1 h2 h3 => normC_I h1 h2 (by
            cases he : ownC e with
            | false => rfl
            | true =>
              obtain ⟨x, hx, h4, rfl⟩ := h3 he
              rw [ownA_adj] at h4
              have := List.any_eq_false.1 hown x hx
              exact absurd h4 this)) (fun _ h => h)
        have hv2 : Vs (AV (NoCtx c.I c.w)) vs cap := ⟨hvs.1, fun i v d h1 h2 => av_of_cv (nopv (pers_pv (List.all_eq_true.1 hcp d (List.mem_of_getElem? h2)) (hvs.2 i v d h1 h2)))⟩
        refine Calls.mono (hF c.I c.w _ (fun b hb => (hI.imm b hb).1) (vs_append hv1 hv2)) ?_
        rintro e w' ⟨v, I1, rfl, hbel, hfr, hrv⟩
        cases r0 with
        | pure d =>
          obtain ⟨_, hgo, hinv⟩ := fresh_lt hI hbel hfr (fun _ h => h)
          exact hK v (c.join I1 w') hinv ⟨hgo, hbel, notv (fun _ h => .inr h) hrv⟩
        | own wd n g =>
          obtain ⟨c', rfl, hinv, haf⟩ := own_join hI hbel hfr hrv
          exact hK v c' hinv haf
        | lnd _ _ _ _ _ => cases hnm
      | true =>
        rw [hown] at hso
        simp only [Bool.not_true, Bool.or_false] at hso
        have hv1 := argsD_vs (P := P) (c := c) (I := Iall c) (ρc := a.eval) (ρd := fun x => unwrap (gch ops 20 o.guard) (evD env x)) ts.toList args.toList (by simpa using hsz) hargs hpa
          (fun t d v e h1 h2 _ => normC_all hI h1 h2) (fun _ h => .inl h)
        have hv2 : Vs (AV (NoCtx (Iall c) c.w)) vs cap := ⟨hvs.1, fun i v d h1 h2 => av_of_cv (nopv ((pers_pv (List.all_eq_true.1 hcp d (List.mem_of_getElem? h2)) (hvs.2 i v d h1 h2)).mono (fun _ h => .inl h) fun _ _ => rfl))⟩
        refine Calls.mono (hF (Iall c) c.w _ (fun b hb => ?_) (vs_append hv1 hv2)) ?_
        · rcases hb with hb | ⟨id, hb⟩
          · exact (hI.imm b hb).1
          · exact (hI.loc id b hb).2.1
        · rintro e w' ⟨v, I1, rfl, hbel, _, hrv⟩
          cases r0 with
          | pure d =>
            obtain ⟨_, hgo, hinv⟩ := fresh_lt (I0 := fun _ => False) (I1 := fun _ => False) hI hbel (fun _ h => h.elim) (fun _ h => h.elim)
            exact hK v (c.join (fun _ => False) w') hinv ⟨hgo, hbel, scalar_tv hso hrv⟩
          | own wd n g => simp [scalarB] at hso
          | lnd _ _ _ _ _ => cases hnm
  · rename_i op hnp hnc
    obtain ⟨⟨d, bs0⟩, hd, heq⟩ := Option.map_eq_some_iff.1 h
    simp only [Prod.mk.injEq] at heq
    obtain ⟨rfl, rfl, rfl, rfl⟩ := heq
    obtain ⟨v, c', h1, h2, h3, h4, h5⟩ := pureOp_ok hI hρ hd (fun b hb' => by
      have := hb (guardB true b) (List.mem_map.2 ⟨b, hb', rfl⟩)
      simpa [guardB] using this)
    unfold Oper.wp
    rw [h1]
    exact hK _ c' h2 ⟨h3, h4, h5⟩
end Nv
