/- Part of the proof of IntervalPrefixes: the library of walks. No condition. -/
import Derived.Test.YtpggnodnpjejlaaDoorNvLibB
import Derived.KernelRfl
import Derived.Test.YtpggnodnpjejlaaDoorNvLibC
namespace Nv
open Go Go.RowKit
def lkB : Op → Bool
  | .load _ _ | .indexAddr _ _ _ => true
  | _ => false
def elemN (k : Nat) : List Nat → Bool
  | [] => false
  | x :: l => Nat.beq x k || elemN k l
def frk (fr : List Nat) (k : Nat) (op : Op) : Bool := elemN k fr && lkB op
theorem wr_not_frk {fr : List Nat} {k : Nat} {op : Op} (h : wrB op = true) : frk fr k op = false := by
  have : lkB op = false := by
    unfold wrB at h
    split at h <;> first | rfl | cases h
  unfold frk; rw [this, Bool.and_false]
def stepDf (fr : List Nat) (P : Program) (ops : Array Oper) (k : Nat) (H : List Ob) (env : List (Nat × D)) (orc : List Res) (o : Oper) : Option (D × List Ob × List Bool × List Req × List Res) :=
  match wrB o.op with
  | true => match o.guard, heapF P H (fun x => unwrap [] (evD env x)) o.op with
    | none, some (d, H', none, bs) => some (d, H', bs, [], orc)
    | _, _ => none
  | false => match stepDr P ops k (bif frk fr k o.op then [] else H) env orc o with
    | some (d, bs, rq, orc') => some (d, H, bs, rq, orc')
    | none => none
structure TraceF (fr : List Nat) (P : Program) (nt : Nat) (ops : Array Oper) (bs : List Bool) (rq : List Req) (k n : Nat) (E : Nat → List (Nat × D)) (HH : Nat → List Ob) (V : Nat → D) : Prop where
  step : ∀ i, k ≤ i → i < n → ∃ o orc b r orc', ops[i]? = some o ∧ stepDf fr P ops i (HH i) (E i) orc o = some (V i, HH (i + 1), b, r, orc') ∧ (∀ x ∈ b, x ∈ bs) ∧ (∀ x ∈ r, x ∈ rq)
  put : ∀ i, k ≤ i → i < n → ∃ o, ops[i]? = some o ∧ putE nt o.dst (V i) (E i) = some (E (i + 1))
def cmpF (fr : List Nat) (ops : Array Oper) : Bool :=
  let M := Region.before ops
  ops.toList.zipIdx.all fun p => !wrB p.1.op || ops.toList.zipIdx.all fun q => stillB q.1.op || frk fr q.2 q.1.op || Nat.beq p.2 q.2 || bif Nat.blt q.2 p.2 then (M.getD p.2 0).testBit q.2 else (M.getD q.2 0).testBit p.2
theorem cmpF_spec {fr : List Nat} {ops : Array Oper} (h : cmpF fr ops = true) {w i : Nat} {ow oi : Oper} (hw : ops[w]? = some ow) (hi : ops[i]? = some oi) (h1 : wrB ow.op = true) (h2 : (stillB oi.op || frk fr i oi.op) = false) (hne : w ≠ i) :
    (i < w ∧ ((Region.before ops).getD w 0).testBit i = true) ∨ (w < i ∧ ((Region.before ops).getD i 0).testBit w = true) := by
  have a1 := List.all_eq_true.1 h (ow, w) (by rw [List.mem_zipIdx_iff_getElem?]; simpa using hw)
  simp only [h1, Bool.not_true, Bool.false_or] at a1
  have a2 := List.all_eq_true.1 a1 (oi, i) (by rw [List.mem_zipIdx_iff_getElem?]; simpa using hi)
  have e : Nat.beq w i = false := by
    cases hb : Nat.beq w i with
    | false => rfl
    | true => exact absurd (Nat.eq_of_beq_eq_true hb) hne
  simp only [h2, e, Bool.false_or] at a2
  cases hlt : Nat.blt i w with
  | true => rw [hlt] at a2; exact .inl ⟨blt_true hlt, a2⟩
  | false =>
    rw [hlt] at a2
    refine .inr ⟨?_, a2⟩
    rcases Nat.lt_or_ge i w with h3 | h3
    · have : Nat.blt i w = true := Nat.ble_eq_true_of_le h3
      rw [this] at hlt; cases hlt
    · omega
end Nv
namespace Nv
open Go Go.RowKit
theorem seq_soundR {P : Program} {F : Fr} [GF P F] {nt : Nat} {ops : Array Oper} (hnd : dstsB ops = true) {Q : Exit → Act → World → Prop} {rest : List Nat} : ∀ (l : List Oper) (k : Nat) (s s' : RS) (bs : List Bool) (rq : List Req), (∀ (j : Nat), l[j]? = ops[k + j]? ∨ l.length ≤ j) →
    runS P nt ops k l s = some (s', bs, rq) → (∀ b ∈ bs, b = true) → (∀ q ∈ rq, q.ok P) → ∀ (a : Act) (c : Ctx), RInv F nt ops k s a c →
    (∀ a' c', RInv F nt ops (k + l.length) s' a' c' → wpOps P ops Q rest a' c'.w) → wpOps P ops Q (List.range' k l.length ++ rest) a c.w
  | [], k, s, s', bs, rq, _, h, _, _, a, c, hR, hQ => by
    simp only [runS, Option.some.injEq, Prod.mk.injEq] at h
    obtain ⟨rfl, rfl, rfl⟩ := h
    exact hQ a c hR
  | o :: l, k, s, s', bs, rq, hl, h, hb, hq, a, c, hR, hQ => by
    have ho : ops[k]? = some o := by
      rcases hl 0 with h1 | h1
      · simpa using h1.symm
      · simp at h1
    simp only [runS] at h
    split at h <;> try cases h
    rename_i s1 b1 r1 hstep
    split at h <;> try cases h
    rename_i s2 b2 r2 hrun
    simp only [List.length_cons, List.range'_succ, List.cons_append, wpOps, ho]
    have next : ∀ a' c', RInv F nt ops (k + 1) s1 a' c' → wpOps P ops Q (List.range' (k + 1) l.length ++ rest) a' c'.w := fun a' c' hR' =>
      seq_soundR hnd l (k + 1) s1 s' b2 r2 (fun j => by
        rcases hl (j + 1) with h1 | h1
        · left; simpa [Nat.add_assoc, Nat.add_comm 1 j] using h1
        · right; simp at h1; exact h1) hrun (fun b hb' => hb b (List.mem_append_right _ hb')) (fun q hq' => hq q (List.mem_append_right _ hq')) a' c' hR'
        (fun a'' c'' h'' => hQ a'' c'' (by rw [List.length_cons, show k + (l.length + 1) = k + 1 + l.length by omega]; exact h''))
    have hb1 : ∀ b ∈ b1, b = true := fun b hb' => hb b (List.mem_append_left _ hb')
    have hq1 : ∀ q ∈ r1, q.ok P := fun q hq' => hq q (List.mem_append_left _ hq')
    have hidx0 : ∀ t j w d, find s.env t = .opt j w d → j < k := hR.idx
    unfold stepS at hstep
    split at hstep <;> try cases hstep
    rename_i g hg
    have hgf : GuardFacts ops a c s.env (gch ops 20 o.guard) := fun p _ t _ => hR.env t
    split at hstep
    · rename_i d bs0 rq0 orc0 j want hop hgd
      cases hlt : Nat.blt j k with
      | false => simp [hlt] at hstep
      | true =>
        simp only [hlt, cond_true] at hstep
        obtain ⟨e, he, heq⟩ := Option.map_eq_some_iff.1 hstep
        simp only [Prod.mk.injEq] at heq
        obtain ⟨rfl, rfl, rfl⟩ := heq
        have hjk := blt_true hlt
        have hyj : ∀ v, yielded ops (a.put o.dst v).tmps j = yielded ops a.tmps j := fun v => yielded_put fun t ht e => by
          have := dsts_spec hnd (show (ops[k]?).bind (·.dst) = some t by rw [ho]; exact ht) e
          omega
        have hwant : Region.wanted o (yielded ops a.tmps) = (yielded ops a.tmps j == some want) := by simp [Region.wanted, hgd]
        cases hw : Region.wanted o (yielded ops a.tmps) with
        | true =>
          simp only [if_true]
          refine .inl (op_sound hR.inv (fun x _ => eval_gv hR x) hgf hg hw (by rw [hR.H]; exact hop) hb1 hq1 fun v c' hI' haf => ?_)
          obtain ⟨hgo, _, htv⟩ := haf
          refine next _ c' (rinv_put hnd hR ho hI' (fun t v hv => hgo.gv hv) hidx0 he (by rw [hgo.H]; exact hR.H) (.inl ⟨?_, htv⟩) (fun j' w' d' e => by cases e; exact hjk))
          rw [hyj]
          rw [hw] at hwant
          simpa using hwant.symm
        | false =>
          simp only [Bool.false_eq_true, if_false]
          refine next _ c (rinv_put hnd hR ho hR.inv (fun t v hv => hv) hidx0 he hR.H (.inr ⟨?_, rfl⟩) (fun j' w' d' e => by cases e; exact hjk))
          rw [hyj]
          rw [hw] at hwant
          simpa using hwant.symm
    · rename_i d bs0 rq0 orc0 hop hgd
      obtain ⟨e, he, heq⟩ := Option.map_eq_some_iff.1 hstep
      simp only [Prod.mk.injEq] at heq
      obtain ⟨rfl, rfl, rfl⟩ := heq
      have hw : Region.wanted o (yielded ops a.tmps) = true := by simp [Region.wanted, hgd]
      simp only [hw, if_true]
      refine .inl (op_sound hR.inv (fun x _ => eval_gv hR x) hgf hg hw (by rw [hR.H]; exact hop) hb1 hq1 fun v c' hI' haf => ?_)
      obtain ⟨hgo, _, htv⟩ := haf
      refine next _ c' (rinv_put hnd hR ho hI' (fun t v hv => hgo.gv hv) hidx0 he (by rw [hgo.H]; exact hR.H) (gv_of_tv htv) (fun j' w' d' e => ?_))
      subst e
      simp only [TV, AV] at htv
      exact absurd htv cv_not_opt
    · rename_i wd n f bs0 rq0 orc0 hop hgd
      obtain ⟨e, he, heq⟩ := Option.map_eq_some_iff.1 hstep
      simp only [Prod.mk.injEq] at heq
      obtain ⟨rfl, rfl, rfl⟩ := heq
      have hw : Region.wanted o (yielded ops a.tmps) = true := by simp [Region.wanted, hgd]
      simp only [hw, if_true]
      refine .inl (op_sound hR.inv (fun x _ => eval_gv hR x) hgf hg hw (by rw [hR.H]; exact hop) hb1 hq1 fun v c' hI' haf => ?_)
      obtain ⟨hH', htr, htv⟩ := haf
      refine next _ c' (rinv_put hnd hR ho hI' (fun t v hv => gv_trans htr hv) hidx0 he (by rw [hH', hR.H]) (gv_of_tv (by rw [← hR.H]; exact htv)) (fun j' w' d' e => by cases e))
    · rename_i hop hgd
      split at hstep
      · rename_i d bs0 hap
        obtain ⟨e, he, heq⟩ := Option.map_eq_some_iff.1 hstep
        simp only [Prod.mk.injEq] at heq
        obtain ⟨rfl, rfl, rfl⟩ := heq
        have hw : Region.wanted o (yielded ops a.tmps) = true := by simp [Region.wanted, hgd]
        simp only [hw, if_true]
        have hρ : ∀ x ∈ o.op.operands.toList, TV c (a.eval x) (unwrap [] (evD s.env x)) := fun x _ => unwrap_ok (a := a) (ops := ops) (by simp) (eval_gv hR x)
        obtain ⟨v, c', hrun', hI', hgo, _, htv⟩ := appPD_ok (ρc := a.eval) hR.inv hρ (by rw [hR.H]; exact hap) hb1
        refine .inl ?_
        unfold Oper.wp
        rw [hrun']
        refine next _ c' (rinv_put hnd hR ho hI' (fun t v hv => hgo.gv hv) hidx0 he (by rw [hgo.H]; exact hR.H) (gv_of_tv htv) (fun j' w' d' e => ?_))
        subst e
        simp only [TV, AV] at htv
        exact absurd htv cv_not_opt
      split at hstep
      · rename_i H' hcl
        obtain ⟨e, he, heq⟩ := Option.map_eq_some_iff.1 hstep
        simp only [Prod.mk.injEq] at heq
        obtain ⟨rfl, rfl, rfl⟩ := heq
        have hw : Region.wanted o (yielded ops a.tmps) = true := by simp [Region.wanted, hgd]
        simp only [hw, if_true]
        have hρ : ∀ x ∈ o.op.operands.toList, TV c (a.eval x) (unwrap [] (evD s.env x)) := fun x _ => unwrap_ok (a := a) (ops := ops) (by simp) (eval_gv hR x)
        obtain ⟨v, c', hrun', hI', hH', htr, htv⟩ := clrD_ok (ρc := a.eval) hR.inv hρ (by rw [hR.H]; exact hcl)
        have hfin0 := next (a.put o.dst v) c' (rinv_put hnd hR ho hI' (fun t v hv => gv_trans htr hv) hidx0 he hH' (gv_of_tv htv) (fun j' w' d' e => by cases e))
        refine .inl ?_
        unfold Oper.wp
        rcases hrun' with h1 | ⟨h1, rfl⟩
        · rw [h1]; exact hfin0
        · rw [h1]; exact hfin0
      split at hstep
      case h_2 =>
        split at hstep <;> try cases hstep
        rename_i d H' rq0 orc0 hlend
        obtain ⟨e, he, heq⟩ := Option.map_eq_some_iff.1 hstep
        simp only [Prod.mk.injEq] at heq
        obtain ⟨rfl, rfl, rfl⟩ := heq
        have hw : Region.wanted o (yielded ops a.tmps) = true := by simp [Region.wanted, hgd]
        simp only [hw, if_true]
        have hρ : ∀ x ∈ o.op.operands.toList, TV c (a.eval x) (unwrap [] (evD s.env x)) := fun x _ => unwrap_ok (a := a) (ops := ops) (by simp) (eval_gv hR x)
        refine .inl (lend_ok hR.inv hρ (by rw [hR.H]; exact hlend) hq1 fun v c' hI' hH' htr htv => ?_)
        refine next _ c' (rinv_put hnd hR ho hI' (fun t v hv => gv_trans htr hv) hidx0 he hH' (gv_of_tv htv) (fun j' w' d' e => ?_))
        subst e
        simp only [TV, AV] at htv
        exact absurd htv cv_not_opt
      rename_i d H' pid bs0 hheap
      obtain ⟨e, he, heq⟩ := Option.map_eq_some_iff.1 hstep
      simp only [Prod.mk.injEq] at heq
      obtain ⟨rfl, rfl, rfl⟩ := heq
      have hw : Region.wanted o (yielded ops a.tmps) = true := by simp [Region.wanted, hgd]
      simp only [hw, if_true]
      have hρ : ∀ x ∈ o.op.operands.toList, TV c (a.eval x) (unwrap [] (evD s.env x)) := fun x _ => unwrap_ok (a := a) (ops := ops) (by simp) (eval_gv hR x)
      obtain ⟨v, c', hrun', hI', hH', htr, htv⟩ := heapF_ok (ρc := a.eval) hR.inv hρ (by rw [hR.H]; exact hheap) hb1
      have hfin : wpOps P ops Q (List.range' (k + 1) l.length ++ rest) (a.put o.dst v) c'.w := by
        refine next _ c' (rinv_put hnd hR ho hI' (fun t v hv => ?_) (fun t j w d hf => ?_) he hH' (gv_of_tv htv) (fun j' w' d' e => ?_))
        · rw [find_map]
          exact gv_purge htr hv
        · rw [find_map] at hf
          exact hidx0 t j w d (purge_not_opt hf).2
        · subst e
          simp only [TV, AV] at htv
          exact absurd htv cv_not_opt
      refine .inl ?_
      unfold Oper.wp
      rcases hrun' with h1 | ⟨h1, rfl⟩
      · rw [h1]; exact hfin
      · rw [h1]; exact hfin
    · cases hstep
def regTo (P : Program) (ops : Array Oper) (k : Nat) (orc : List Res) (keep : List Nat) (hn : Nat) (s : St) : Option (St × List Bool × List Req) :=
  bif dstsB ops && Nat.ble k ops.size then
    (match runS P s.nt ops 0 (ops.toList.take k) ⟨s.env, s.H, orc⟩ with
    | some (r, bs, rq) => (cutS hn ⟨s.nt, fin r.env keep, r.H⟩).map fun s' => (s', bs, rq)
    | none => none) else none
def regFrom (P : Program) (ops : Array Oper) (k : Nat) (orc : List Res) (keep : List Nat) (hn : Nat) (s : St) : Option (St × List Bool × List Req) :=
  match runS P s.nt ops k (ops.toList.drop k) ⟨s.env, s.H, orc⟩ with
  | some (r, bs, rq) => (cutS hn ⟨s.nt, fin r.env keep, r.H⟩).map fun s' => (s', bs, rq)
  | none => none
theorem rinv_of_rel {F : Fr} {nt : Nat} {ops : Array Oper} {k : Nat} {s : St} {a : Act} {w : World} {orc : List Res} (h : Rel F s a w) (hn : s.nt = nt) : ∃ c : Ctx, c.w = w ∧ RInv F nt ops k ⟨s.env, s.H, orc⟩ a c := by
  obtain ⟨c, rfl, hH, hI, henv, hsz, hd⟩ := h
  refine ⟨c, rfl, hH, hI, fun t => gv_of_tv (henv t), hsz.trans hn, hd, fun t j w d hf => ?_⟩
  have := henv t
  have hf : find s.env t = .opt j w d := hf
  rw [hf] at this
  simp only [TV, AV] at this
  exact absurd this cv_not_opt
end Nv
namespace Nv
open Go Go.RowKit
theorem reach_trans {ops : Array Oper} {i j k : Nat} (h : Reach ops i j) (r : Reach ops j k) : Reach ops i k := by
  induction h with
  | one h => exact .step h r
  | step h _ ih => exact .step h (ih r)
def chainB (ops : Array Oper) (k : Nat) : Bool :=
  let M := Region.before ops
  (List.range ops.size).all fun q => Nat.ble q k || (M.getD q 0).testBit (q - 1)
theorem chainB_spec {ops : Array Oper} {k q : Nat} (h : chainB ops k = true) (hq : q < ops.size) (hk : k < q) : ((Region.before ops).getD q 0).testBit (q - 1) = true := by
  have h1 := List.all_eq_true.1 h q (List.mem_range.2 hq)
  rw [show Nat.ble q k = false by (cases hb : Nat.ble q k with | false => rfl | true => have := Nat.le_of_ble_eq_true hb; omega), Bool.false_or] at h1
  exact h1
theorem any_chain {P : Program} {ops : Array Oper} (hfl : flowB ops = true) {k : Nat} (hch : chainB ops k = true) {Q : Exit → Act → World → Prop} :
    ∀ (m j : Nat) (listed : Array Bool) (a : Act) (w : World), j + m = ops.size → k ≤ j → listed.size = ops.size → (∀ i, listed.getD i false = true ↔ i < j) → wpOps P ops Q (List.range' j m) a w → wpAny P .any ops Q m listed a w := by
  have flow := flow_of hfl
  have onlt : ∀ i o, ops[i]? = some o → ∀ e ∈ o.after, Region.binds .any e = true → e.on < i := fun i o ho e he hb => by
    have h1 := flow i o ho
    simp only [flowAt, Bool.and_eq_true] at h1
    have h2 := Array.all_eq_true'.1 h1.1.1 e he
    simp only [hb, Bool.not_true, Bool.false_or] at h2
    exact blt_true h2
  intro m
  induction m with
  | zero =>
    intro j listed a w hj _ hls hl hw
    refine ⟨?_, hw⟩
    cases hr : Region.ready .any ops listed with
    | nil => rfl
    | cons i r =>
      exfalso
      have hi : i ∈ Region.ready .any ops listed := by rw [hr]; exact List.mem_cons_self
      obtain ⟨h1, o, ho, _⟩ := mem_ready.1 hi
      have hil := (Array.getElem?_eq_some_iff.1 ho).1
      have h2 := (hl i).2 (by omega)
      simp [hls, hil] at h1 h2
      rw [h1] at h2; cases h2
  | succ m ih =>
    intro j listed a w hj hkj hls hl hw
    have hjl : j < ops.size := by omega
    obtain ⟨oj, hoj⟩ : ∃ o, ops[j]? = some o := ⟨ops[j], by simp [hjl]⟩
    have hin : j ∈ Region.ready .any ops listed := mem_ready.2 ⟨by
      have : listed.getD j false = false := by
        cases hq : listed.getD j false with
        | false => rfl
        | true => have := (hl j).1 hq; omega
      simp [hls, hjl] at this ⊢; exact this, oj, hoj, fun e he hb => (hl _).2 (onlt j oj hoj e he hb)⟩
    refine ⟨fun h => (by rw [h] at hin; cases hin), fun i hi => ?_⟩
    obtain ⟨hun, o, ho, hall⟩ := mem_ready.1 hi
    have hil := (Array.getElem?_eq_some_iff.1 ho).1
    have hij : i = j := by
      rcases Nat.lt_trichotomy i j with h | h | h
      · have h1 := (hl i).2 h
        simp [hls, hil] at hun h1
        rw [hun] at h1; cases h1
      · exact h
      · exfalso
        have key : ∀ d i, i = j + 1 + d → i < ops.size → Reach ops i j := by
          intro d
          induction d with
          | zero =>
            intro i e hi
            subst e
            have := before_reach ops (j + 1 + 0) (j + 1 + 0 - 1) hi (chainB_spec hch hi (by omega))
            rwa [show j + 1 + 0 - 1 = j by omega] at this
          | succ d ihd =>
            intro i e hi
            have h1 := before_reach ops i (i - 1) hi (chainB_spec hch hi (by omega))
            have h2 := ihd (i - 1) (by omega) (by omega)
            exact reach_trans h1 h2
        have hR := key (i - j - 1) i (by omega) hil
        have hc : ∀ x y, Waits ops x y → listed.getD x false = true → listed.getD y false = true := fun x y ⟨o', ho', e, he, hb, hon⟩ hx => by
          have := onlt x o' ho' e he hb
          have := (hl x).1 hx
          exact (hl y).2 (by omega)
        have := closed_reach hc hR fun y ⟨o', ho', e, he, hb, hon⟩ => by
          rw [ho] at ho'; cases ho'
          rw [← hon]; exact hall e he hb
        have := (hl j).1 this
        omega
    subst hij
    rw [List.range'_succ, wpOps_cons] at hw
    have step : ∀ a w, wpOps P ops Q (List.range' (i + 1) m) a w → wpAny P .any ops Q m (listed.setIfInBounds i true) a w := fun a w h =>
      ih (i + 1) _ a w (by omega) (by omega) (by simp [hls]) (fun x => by rw [set_iff (by omega), hl]; omega) h
    unfold wpOp at hw ⊢
    simp only [ho] at hw ⊢
    split
    · rename_i hwn
      rw [if_pos hwn] at hw
      exact hw.imp (fun h => Oper.wp_mono step h) fun h => h
    · rename_i hwn
      rw [if_neg hwn] at hw
      exact step _ _ hw
theorem ops_from {P : Program} {F : Fr} [GF P F] {ops : Array Oper} {k : Nat} (hnd : dstsB ops = true) {s s3 : St} {orc : List Res} {keep : List Nat} {hn : Nat} {bs : List Bool} {rq : List Req} (h : regFrom P ops k orc keep hn s = some (s3, bs, rq)) (hb : ∀ b ∈ bs, b = true) (hq : ∀ q ∈ rq, q.ok P)
    {Q : Exit → Act → World → Prop} (hQ : ∀ a w, Rel F s3 a w → Q .normal a w) {a : Act} {w : World} (hR : Rel F s a w) : wpOps P ops Q (List.range' k (ops.size - k)) a w := by
  unfold regFrom at h
  split at h <;> try cases h
  rename_i r bs' rq' hrun
  obtain ⟨q3, hcut, heq⟩ := Option.map_eq_some_iff.1 h
  simp only [Prod.mk.injEq] at heq
  obtain ⟨rfl, rfl, rfl⟩ := heq
  obtain ⟨c, rfl, h0⟩ := rinv_of_rel (ops := ops) (k := k) (orc := orc) hR rfl
  have hlen : (ops.toList.drop k).length = ops.size - k := by simp
  have := seq_soundR hnd (Q := Q) (rest := []) (ops.toList.drop k) k ⟨s.env, s.H, orc⟩ r bs' rq' (fun j => .inl (by rw [List.getElem?_drop]; simp)) hrun hb hq a c h0 (fun a' c' hR' => hQ _ _ (le_cut hcut F a' c'.w (rinv_fin hR' keep)))
  rw [hlen, List.append_nil] at this
  exact this
theorem ops_to {P : Program} {F : Fr} [GF P F] {ops : Array Oper} {k : Nat} {s s1 : St} {orc : List Res} {keep : List Nat} {hn : Nat} {bs : List Bool} {rq : List Req} (h : regTo P ops k orc keep hn s = some (s1, bs, rq)) (hb : ∀ b ∈ bs, b = true) (hq : ∀ q ∈ rq, q.ok P)
    {Q : Exit → Act → World → Prop} (hQ : ∀ a w, Rel F s1 a w → wpOps P ops Q (List.range' k (ops.size - k)) a w) {a : Act} {w : World} (hR : Rel F s a w) : dstsB ops = true ∧ wpOps P ops Q (List.range ops.size) a w := by
  unfold regTo at h
  cases hc : (dstsB ops && Nat.ble k ops.size) with
  | false => rw [hc] at h; cases h
  | true =>
    rw [hc] at h
    simp only [cond_true] at h
    simp only [Bool.and_eq_true] at hc
    have hkl := Nat.le_of_ble_eq_true hc.2
    split at h <;> try cases h
    rename_i r bs rq hrun
    obtain ⟨q1, hcut, heq⟩ := Option.map_eq_some_iff.1 h
    simp only [Prod.mk.injEq] at heq
    obtain ⟨rfl, rfl, rfl⟩ := heq
    obtain ⟨c, rfl, h0⟩ := rinv_of_rel (ops := ops) (k := 0) (orc := orc) hR rfl
    have hlen : (ops.toList.take k).length = k := by simp; omega
    have := seq_soundR hc.1 (Q := Q) (rest := List.range' k (ops.size - k)) (ops.toList.take k) 0 ⟨s.env, s.H, orc⟩ r bs rq (fun j => by
      rcases Nat.lt_or_ge j k with h | h
      · left; rw [List.getElem?_take_of_lt h]; simp
      · right; rw [hlen]; exact h) hrun hb hq a c h0 (fun a' c' hR' => hQ _ _ (le_cut hcut F a' c'.w (rinv_fin hR' keep)))
    rw [hlen] at this
    refine ⟨hc.1, ?_⟩
    have e : List.range ops.size = List.range' 0 k ++ List.range' k (ops.size - k) := by
      rw [List.range_eq_range', show List.range' k (ops.size - k) = List.range' (0 + 1 * k) (ops.size - k) by simp, List.range'_append, show k + (ops.size - k) = ops.size by omega]
    rw [e]
    exact this
end Nv
namespace Nv
open Go Go.RowKit
theorem rel_drew {F : Fr} {s : St} {a : Act} {w : World} (h : Rel F s a w) : Rel F s a w.drew := by
  obtain ⟨c, rfl, hH, hI, henv, hsz, hd⟩ := h
  let c' : Ctx := { c with w := c.w.drew }
  have hgo : Goes c c' := ⟨rfl, rfl, fun _ h => h, fun _ _ => rfl, fun b hb => (hI.imm b hb).1, fun id b hb => (hI.loc id b hb).2.1⟩
  exact ⟨c', rfl, hH, hI.goes hgo (Bw.refl _ _).drew (fun _ h => .inl h), fun t => hgo.tv (henv t), hsz, hd⟩
theorem u_step {P : Program} {F : Fr} [GF P F] {nt : Nat} {ops : Array Oper} (hnd : dstsB ops = true) {i : Nat} {o : Oper} (ho : ops[i]? = some o) {s : St} (hnt : s.nt = nt) {orc : List Res} {r : RS} {bs : List Bool} {rq : List Req} (h : stepS P nt ops i ⟨s.env, s.H, orc⟩ o = some (r, bs, rq))
    (hb : ∀ b ∈ bs, b = true) (hq : ∀ q ∈ rq, q.ok P) {Q : Exit → Act → World → Prop} {K : Act → World → Prop} (keys : List Nat) (hK : ∀ a w, Rel F ⟨nt, fin r.env keys, r.H⟩ a w → K a w) {a : Act} {w : World} (hR : Rel F s a w) : wpOp P ops Q i K a w := by
  obtain ⟨c, rfl, h0⟩ := rinv_of_rel (ops := ops) (k := i) (orc := orc) hR hnt
  have hw := seq_soundR hnd (Q := QK Q K) (rest := []) [o] i ⟨s.env, s.H, orc⟩ r bs rq (fun j => by
      cases j with
      | zero => left; rw [Nat.add_zero, ho]; rfl
      | succ j => right; simp) (by simp only [runS, h, List.append_nil]) hb hq a c h0 (fun a' c' hR' => hK _ _ (rinv_fin hR' keys))
  rw [show List.range' i [o].length ++ [] = [i] from rfl, wpOps_cons] at hw
  unfold wpOp at hw ⊢
  simp only [ho] at hw ⊢
  split
  · rename_i hwn
    rw [if_pos hwn] at hw
    exact hw.imp (fun h => wp_qk (fun _ _ h => h) h) fun h => h
  · rename_i hwn
    rw [if_neg hwn] at hw
    exact hw
abbrev UDat := List (List Res × List Bool × List Req)
section
variable (P : Program) (nt : Nat) (ops : Array Oper) (keys : List Nat) (dat : UDat)
def tStep (k : Nat) (s : St) : Option (St × List Bool × List Req) :=
  match ops[k]? with
  | some o => match stepS P nt ops k ⟨s.env, s.H, (dat.getD k ([], [], [])).1⟩ o with
    | some (r, bs, rq) => some (⟨nt, fin r.env keys, r.H⟩, bs, rq)
    | none => none
  | none => none
def tRun (s : St) (listed : Array Bool) : Nat → Option St
  | 0 => some ⟨nt, fin s.env keys, s.H⟩
  | k + 1 => match tRun s listed k with
    | some st => match listed.getD k false with
      | true => match tStep P nt ops keys dat k st with
        | some (st', _, _) => some st'
        | none => none
      | false => some st
    | none => none
def tEnd (s : St) : Option (St × List Bool × List Req) := match tRun P nt ops keys dat s (Array.replicate ops.size true) ops.size with
  | some st => some (st, [], [])
  | none => none
def tPairs (s : St) : Nat → Array Bool → List (Option (St × List Bool × List Req) × Option (St × List Bool × List Req))
  | 0, listed => [((tRun P nt ops keys dat s listed ops.size).bind fun st => some (st, [], []), tEnd P nt ops keys dat s)]
  | f + 1, listed => (Region.ready .any ops listed).flatMap fun i =>
      ((tRun P nt ops keys dat s listed ops.size).bind fun st => tStep P nt ops keys dat i st, (tRun P nt ops keys dat s (listed.setIfInBounds i true) ops.size).bind fun st => some (st, (dat.getD i ([], [], [])).2.1, (dat.getD i ([], [], [])).2.2)) :: tPairs s f (listed.setIfInBounds i true)
def tShape : Nat → Array Bool → Bool
  | 0, listed => (Region.ready .any ops listed).isEmpty
  | f + 1, listed => !(Region.ready .any ops listed).isEmpty && (Region.ready .any ops listed).all fun i => tShape f (listed.setIfInBounds i true)
end
theorem map_eq_all {α β : Type} {f g : α → β} : ∀ {l : List α}, l.map f = l.map g → ∀ x ∈ l, f x = g x
  | [], _, x, hx => by cases hx
  | y :: l, h, x, hx => by
    simp only [List.map_cons, List.cons.injEq] at h
    rcases List.mem_cons.1 hx with rfl | hx
    · exact h.1
    · exact map_eq_all h.2 x hx
theorem dat_bs {dat : UDat} {i : Nat} {b : Bool} (h : b ∈ (dat.getD i ([], [], [])).2.1) : b ∈ dat.flatMap (·.2.1) := by
  rcases Nat.lt_or_ge i dat.length with h1 | h1
  · rw [List.getD_eq_getElem?_getD, List.getElem?_eq_getElem h1, Option.getD_some] at h
    exact List.mem_flatMap.2 ⟨_, List.getElem_mem h1, h⟩
  · rw [List.getD_eq_getElem?_getD, List.getElem?_eq_none h1, Option.getD_none] at h
    cases h
theorem dat_rq {dat : UDat} {i : Nat} {b : Req} (h : b ∈ (dat.getD i ([], [], [])).2.2) : b ∈ dat.flatMap (·.2.2) := by
  rcases Nat.lt_or_ge i dat.length with h1 | h1
  · rw [List.getD_eq_getElem?_getD, List.getElem?_eq_getElem h1, Option.getD_some] at h
    exact List.mem_flatMap.2 ⟨_, List.getElem_mem h1, h⟩
  · rw [List.getD_eq_getElem?_getD, List.getElem?_eq_none h1, Option.getD_none] at h
    cases h
theorem tRun_nt {P : Program} {nt : Nat} {ops : Array Oper} {keys : List Nat} {dat : UDat} {s : St} {listed : Array Bool} : ∀ {k : Nat} {st : St}, tRun P nt ops keys dat s listed k = some st → st.nt = nt
  | 0, st, h => by simp only [tRun, Option.some.injEq] at h; rw [← h]
  | k + 1, st, h => by
    simp only [tRun] at h
    split at h <;> try cases h
    rename_i st0 h0
    split at h
    · split at h <;> try cases h
      rename_i st' b q hs
      unfold tStep at hs
      split at hs <;> try cases hs
      split at hs <;> try cases hs
      rfl
    · cases h; exact tRun_nt h0
theorem u_main {P : Program} {F : Fr} [GF P F] {nt : Nat} {ops : Array Oper} {keys : List Nat} {dat : UDat} {s sF : St} (hnd : dstsB ops = true) (hb : ∀ b ∈ dat.flatMap (·.2.1), b = true) (hq : ∀ q ∈ dat.flatMap (·.2.2), q.ok P)
    (hF : tRun P nt ops keys dat s (Array.replicate ops.size true) ops.size = some sF) {Q : Exit → Act → World → Prop} (hQ : ∀ a w, Rel F sF a w → Q .normal a w) :
    ∀ (fuel : Nat) (listed : Array Bool) (a : Act) (w : World) (st : St), tShape ops fuel listed = true → (∀ p ∈ tPairs P nt ops keys dat s fuel listed, p.1 = p.2) → (∀ p ∈ tPairs P nt ops keys dat s fuel listed, p.1.isSome = true) →
      tRun P nt ops keys dat s listed ops.size = some st → Rel F st a w → wpAny P .any ops Q fuel listed a w
  | 0, listed, a, w, st, hs, hp, _, ht, hR => by
    refine ⟨by simpa [tShape] using hs, ?_⟩
    have := hp _ List.mem_cons_self
    simp only [ht, tEnd, hF, Option.bind_some, Option.some.injEq, Prod.mk.injEq, and_true] at this
    exact hQ _ _ (this ▸ hR)
  | f + 1, listed, a, w, st, hs, hp, hm, ht, hR => by
    simp only [tShape, Bool.and_eq_true, Bool.not_eq_true', List.all_eq_true] at hs
    refine ⟨fun h => by rw [h] at hs; simp at hs, fun i hi => ?_⟩
    have hin : ∀ p, p ∈ ((tRun P nt ops keys dat s listed ops.size).bind fun st => tStep P nt ops keys dat i st, (tRun P nt ops keys dat s (listed.setIfInBounds i true) ops.size).bind fun st => some (st, (dat.getD i ([], [], [])).2.1, (dat.getD i ([], [], [])).2.2)) :: tPairs P nt ops keys dat s f (listed.setIfInBounds i true) → p ∈ tPairs P nt ops keys dat s (f + 1) listed := fun p h => by
      simp only [tPairs]
      exact List.mem_flatMap.2 ⟨i, hi, h⟩
    have e := hp _ (hin _ List.mem_cons_self)
    have e2 := hm _ (hin _ List.mem_cons_self)
    simp only [ht, Option.bind_some] at e e2
    obtain ⟨⟨st1, b1, q1⟩, h1⟩ := Option.isSome_iff_exists.1 e2
    rw [h1] at e
    cases ht2 : tRun P nt ops keys dat s (listed.setIfInBounds i true) ops.size with
    | none => rw [ht2] at e; cases e
    | some st2 =>
      rw [ht2] at e
      simp only [Option.bind_some, Option.some.injEq, Prod.mk.injEq] at e
      obtain ⟨rfl, rfl, rfl⟩ := e
      unfold tStep at h1
      split at h1 <;> try cases h1
      rename_i o ho
      split at h1 <;> try cases h1
      rename_i r hst
      exact u_step hnd ho (tRun_nt ht) hst (fun b h => hb b (dat_bs h)) (fun q h => hq q (dat_rq h)) keys (fun a w hR' =>
        u_main hnd hb hq hF hQ f _ a w _ (hs.2 i hi) (fun p h => hp p (hin p (List.mem_cons_of_mem _ h))) (fun p h => hm p (hin p (List.mem_cons_of_mem _ h))) ht2 hR') hR
def regU (P : Program) (ops : Array Oper) (keys : List Nat) (dat : UDat) (keep : List Nat) (hn : Nat) (s : St) : Option St :=
  match tRun P s.nt ops keys dat s (Array.replicate ops.size true) ops.size with
  | some sF => cutS hn ⟨s.nt, fin sF.env keep, sF.H⟩
  | none => none
theorem rgu {P : Program} {Q : Exit → St → Prop} {s : St} {id : Nat} {ops : Array Oper} (keys : List Nat) (dat : UDat) (keep : List Nat) (hn : Nat) (s' : St) (bs : List Bool) (rq : List Req) (hb : ∀ b ∈ bs, b = true) (hq : Reqs P rq) (k : Q .normal s')
    (h1 : dat.flatMap (·.2.1) = bs := by rfl) (h2 : dat.flatMap (·.2.2) = rq := by rfl) (h3 : regU P ops keys dat keep hn s = some s' := by kernel_rfl)
    (h4 : (tPairs P s.nt ops keys dat s ops.size (Array.replicate ops.size false)).map (·.1) = (tPairs P s.nt ops keys dat s ops.size (Array.replicate ops.size false)).map (·.2) := by kernel_rfl)
    (h5 : (P.follows .mixedOrders && dstsB ops && tShape ops ops.size (Array.replicate ops.size false) && (tPairs P s.nt ops keys dat s ops.size (Array.replicate ops.size false)).all fun p => p.1.isSome) = true := by kernel_rfl) : AWP P (.region id ops true) Q s := by
  subst h1; subst h2
  intro F a w hG hR
  simp only [Bool.and_eq_true] at h5
  obtain ⟨⟨⟨hmo, hnd⟩, hsh⟩, hsm⟩ := h5
  unfold regU at h3
  split at h3 <;> try cases h3
  rename_i sF hF
  have hst : ∀ m, tRun P s.nt ops keys dat s (Array.replicate ops.size false) m = some ⟨s.nt, fin s.env keys, s.H⟩ := fun m => by
    induction m with
    | zero => rfl
    | succ m ih => simp only [tRun, ih, getD_rep_false]
  refine wp_region_any hmo ?_
  refine u_main (F := F) hnd hb hq.all hF (fun a' w' hR' => ⟨s', k, ?_⟩) ops.size _ a w.drew _ hsh (map_eq_all h4) (fun p hp => List.all_eq_true.1 hsm p hp) (hst _) ?_
  · obtain ⟨c, hc, h0⟩ := rinv_of_rel (ops := ops) (k := 0) (orc := []) (rel_drew hR) rfl
    rw [← hc]
    exact rinv_fin h0 keys
  · obtain ⟨c, rfl, h0⟩ := rinv_of_rel (ops := ops) (k := 0) (orc := []) hR' (tRun_nt hF)
    exact le_cut h3 F _ c.w (rinv_fin h0 keep)
end Nv
namespace Nv
open Go Go.RowKit
def exV : D → Value
  | .int k n => .int k n
  | .bool b => .bool b
  | .str s => .string s
  | _ => undef
def exB : D → Bool
  | .int _ _ | .bool _ | .str _ => true
  | _ => false
theorem exV_cv {c : Ctx} {d : D} (h : exB d = true) : CV c (exV d) d := by
  cases d <;> first | (simp [exB] at h; done) | skip
  · exact .int _ _
  · exact .bool _
  · exact .str _
def exA (cs : List D) : Value := .agg (cs.map exV).toArray
theorem exA_vs (c : Ctx) {cs : List D} (h : cs.all exB = true) : Vs (CV c) (cs.map exV).toArray cs := by
  refine ⟨by simp, fun i v d h1 h2 => ?_⟩
  simp only [List.getElem?_toArray, List.getElem?_map, h2, Option.map_some, Option.some.injEq] at h1
  subst h1
  exact exV_cv (List.all_eq_true.1 h d (List.mem_of_getElem? h2))
section
variable {P : Program}
end
section
variable {F : Fr} {c : Ctx} {id : Nat} {u : Value} {es es' : List (Value × Value)}
structure MPut (c : Ctx) (id b : Nat) (w' : World) : Prop where
  os : w'.os = c.w.os
  tape : w'.tape = c.w.tape
  output : w'.output = c.w.output
  drawn : w'.drawn = c.w.drawn
  size : w'.heap.size = c.w.heap.size
  blk : ∀ k, k ≠ b → w'.heap[k]? = c.w.heap[k]?
end
def OpS (P : Program) (ops : Array Oper) (k : Nat) (s : St) {α : Type} (S : α → St) : Prop :=
  ∀ F a w, GF P F → Rel F s a w → ∀ (Q : Exit → Act → World → Prop) (l : List Nat), (∀ x a' w', Rel F (S x) a' w' → wpOps P ops Q l a' w') → wpOps P ops Q (k :: l) a w
theorem rgo {P : Program} {Q : Exit → St → Prop} {s : St} {id : Nat} {ops : Array Oper} (k : Nat) (orc1 : List Res) (keep1 : List Nat) (hn1 : Nat) (s1 : St) (bs1 : List Bool) (rq1 : List Req) (hb1 : ∀ b ∈ bs1, b = true) (hq1 : Reqs P rq1)
    {α : Type} (S2 : α → St) (hop : OpS P ops k s1 S2) (orcB : List Res) (keepB : List Nat) (hnB : Nat) (s3 : α → St) (bsB : α → List Bool) (rqB : α → List Req) (hbB : ∀ x, ∀ b ∈ bsB x, b = true) (hqB : ∀ x, Reqs P (rqB x)) (kk : ∀ x, Q .normal (s3 x))
    (h1 : regTo P ops k orc1 keep1 hn1 s = some (s1, bs1, rq1) := by kernel_rfl) (hB : ∀ x, regFrom P ops (k + 1) orcB keepB hnB (S2 x) = some (s3 x, bsB x, rqB x) := by intro _; kernel_rfl) (hk : Nat.blt k ops.size = true := by kernel_rfl) : AWP P (.region id ops false) Q s := by
  intro F a w hG hR
  refine wp_region ?_
  have hk := blt_true hk
  have hnd : dstsB ops = true := by
    unfold regTo at h1
    cases hc : (dstsB ops && Nat.ble k ops.size) with
    | false => rw [hc] at h1; cases h1
    | true => simp only [Bool.and_eq_true] at hc; exact hc.1
  refine (ops_to h1 hb1 hq1.all (fun a w hR1 => ?_) hR).2
  rw [show ops.size - k = (ops.size - (k + 1)) + 1 by omega, List.range'_succ]
  exact hop F a w hG hR1 _ _ fun x a' w' hR2 => ops_from hnd (hB x) (hbB x) (hqB x).all (fun a w h => ⟨_, kk x, h⟩) hR2
theorem rel_putM {F : Fr} {nt : Nat} {e : List (Nat × D)} {H' : List Ob} {a : Act} {c' : Ctx} (henv : ∀ t, TV c' (a.tmps.getD t undef) (find e t)) (hsz : a.tmps.size = nt) (hd : a.defers = []) (hI : Inv F c') (hH : c'.H = H') {t : Nat} (ht : t < nt) {v : Value} {d : D} (hv : TV c' v d) :
    Rel F ⟨nt, (t, d) :: e, H'⟩ (a.put (some t) v) c'.w := by
  refine ⟨c', rfl, hH, hI, fun u => ?_, by rw [size_put]; exact hsz, by rw [defers_put]; exact hd⟩
  show TV c' _ (find ((t, d) :: e) u)
  simp only [find]
  cases hb : Nat.beq t u with
  | true =>
    obtain rfl := Nat.eq_of_beq_eq_true hb
    simp only [cond_true]
    rw [getD_put_same (by rw [hsz]; exact ht)]
    exact hv
  | false =>
    simp only [cond_false]
    rw [getD_put (by simpa using Nat.ne_of_beq_eq_false hb)]
    exact henv u
structure KeyT (P : Program) (T kt et : TypeId) {α : Type} (cK : α → List D) (eq : α → α → Bool) : Prop where
  map : P.underlying T = some (.map kt et)
  str : ∃ fs, P.underlying kt = some (.struct fs)
  size : ∃ n, szO P kt = some n ∧ ∀ y, (cK y).length = n
  exB : ∀ y, (cK y).all exB = true
  check : ∀ em y w, (Instr.checkKey em 10000 kt (exA (cK y))).run P w = .ok () w
  zero : ∀ w, (zeroValue et).run P w = .ok (.int .i64 0) w
  eq : ∀ x y, typeEq P 40 kt (cK x) (cK y) = some (eq x y)
theorem KeyT.laid {P : Program} {T kt et : TypeId} {α : Type} {cK : α → List D} {eq : α → α → Bool} (K : KeyT P T kt et cK eq) (c : Ctx) (y : α) : Laid P c kt (exA (cK y)) (cK y) := by
  obtain ⟨fs, hs⟩ := K.str
  obtain ⟨n, hn, hl⟩ := K.size
  exact .inl ⟨fs, n, _, hs, hn, by rw [hl]; exact Nat.le_refl _, rfl, by rw [← hl y, List.take_length]; exact exA_vs c (K.exB y)⟩
theorem KeyT.equal {P : Program} {T kt et : TypeId} {α : Type} {cK : α → List D} {eq : α → α → Bool} (K : KeyT P T kt et cK eq) (c : Ctx) (x y : α) : (Op.equal kt (exA (cK x)) (exA (cK y))).run P c.w = .ok (eq x y) c.w := by
  have := (eq_ok P c 40).1 _ _ _ _ (K.eq x y) 10000 (by omega) _ _ (K.laid c x) (K.laid c y)
  simpa [Op.equal, Op.maxDepth] using this
end Nv
namespace Nv
open Go Go.RowKit
theorem lit1_ext {α : Type} [Inhabited α] {c : α → List D} {f : Nat → List D} {x : α} (h : f 0 = c x) : ∀ i, i < 1 → f i = c (([x] : List α).getD i default) := fun i hi => by
  obtain rfl : i = 0 := by omega
  exact h
def OutO (fn : Func) (wd n : Nat) (g : Nat → List D) (e : Exit) (s : St) : Prop := e = .ret ∧ ∃ s', Le s s' ∧ EndsOwn fn wd n g e s'
theorem own_pv {I : Nat → Prop} {B : Nat} {w : World} {v : Value} {wd n : Nat} {g : Nat → List D} (h : Own I B w v wd n g) : ∃ I', (∀ b, I b → I' b) ∧ (∀ b, I' b → I b ∨ (B ≤ b ∧ b < w.heap.size)) ∧ PV I' w v (.sl false wd n g) := by
  obtain ⟨a, cap, rfl, hc, hw, h0 | ⟨b, cs, T, rfl, hB, hbs, _, hcs, hsz, hel⟩⟩ := h
  · refine ⟨I, fun _ h => h, fun _ h => .inl h, .sl a n cap wd false g (fun _ _ => undef) (fun h => by cases h) hc (fun hn => by omega) hw (fun i hi => by omega) fun i hi => by omega⟩
  · have key : ∀ i, i < n → ∀ j, j < wd → ∃ d u, (g i)[j]? = some d ∧ cs[i * wd + j]? = some u ∧ u.oneCell' = true ∧ PV I w u d := fun i hi j hj => by
      have hl : j < (g i).length := by rw [hw i hi]; exact hj
      obtain ⟨u, h1, h2, h3⟩ := hel i hi j _ (List.getElem?_eq_getElem hl)
      exact ⟨_, u, List.getElem?_eq_getElem hl, h1, h2, h3⟩
    have hget : ∀ i j u, cs[i * wd + j]? = some u → cs.getD (i * wd + j) undef = u := fun i j u h => by simp [h]
    refine ⟨fun x => I x ∨ x = b, fun _ h => .inl h, fun x h => h.imp id fun e => by subst e; exact ⟨hB, hbs⟩, .sl _ n cap wd false g (fun i j => cs.getD (i * wd + j) undef) (fun h => by cases h) hc (fun hn => ⟨b, 0, rfl, .inr rfl, fun i hi j hj => ?_⟩) hw (fun i hi j hj => ?_) fun i hi j d hd => ?_⟩
    · obtain ⟨d, u, _, h1, _, _⟩ := key i hi j hj
      rw [hget _ _ _ h1]
      simp [World.cell?, hcs, h1]
    · obtain ⟨d, u, _, h1, h2, _⟩ := key i hi j hj
      rw [hget _ _ _ h1]; exact h2
    · obtain ⟨u, h1, _, h3⟩ := hel i hi j d hd
      rw [hget _ _ _ h1]
      exact h3.mono (fun _ h => .inl h) fun _ _ => rfl
theorem Fn.pure_of_own {P : Program} {f : FuncId} {ds : List D} {wd n : Nat} {g : Nat → List D} (h : Fn P f ds (.own wd n g)) : Fn P f ds (.pure (.sl false wd n g)) := by
  intro I0 w vs hGT hI0 hvs
  refine (h I0 w vs hGT hI0 hvs).mono fun e w' ⟨v, I1, he, hb, hf, hr⟩ => ?_
  obtain ⟨I', h1, h2, h3⟩ := own_pv hr
  refine ⟨v, I', he, hb, fun b hb' => (h2 b hb').elim (hf b) fun h => .inr h, ?_⟩
  show TV (NoCtx I' w') v (.sl false wd n g)
  exact tv_pv (c := NoCtx I' w') h3
theorem evD_ok {c : Ctx} {a : Act} {e : List (Nat × D)} (henv : ∀ t, TV c (a.tmps.getD t undef) (find e t)) (x : Operand) : TV c (a.eval x) (evD e x) := by
  cases x with
  | tmp t => exact henv t
  | const v => exact tv_dv c v
  | global g => exact tv_any
  | func f => exact ⟨#[], rfl, rfl, fun i v d h1 _ => by simp at h1⟩
theorem opS_lit {P : Program} {ops : Array Oper} {k nt : Nat} {e : List (Nat × D)} {H : List Ob} {t : Nat} {T : TypeId} {len : Nat} {ps : Array (Nat × Operand)} {o : Oper} {sz : Nat} {f : Nat → List D} (hk : ops[k]? = some o) (hop : o.op = .buildSlice T len ps) (hdst : o.dst = some t) (hg : o.guard = none) (ht : Nat.blt t nt = true)
    (h : buildSliceD P T len (ps.toList.map fun p => (p.1, evD e p.2)) = some (.sl true sz len f)) :
    OpS P ops k ⟨nt, e, H⟩ (fun _ : Unit => ⟨nt, (t, .asl H.length 0 len) :: e, H ++ [.arr sz len f]⟩) := by
  rintro F a w hG ⟨c, rfl, hH, hI, henv, hsz0, hd⟩ Q l hK
  obtain rfl : c.H = H := hH
  have hw : Region.wanted o (yielded ops a.tmps) = true := by simp [Region.wanted, hg]
  simp only [wpOps, hk, hw, if_true]
  refine .inl ?_
  have hρ : ∀ p ∈ ps.toList, TV c (a.eval p.2) (evD e p.2) := fun p _ => evD_ok henv p.2
  unfold buildSliceD at h
  split at h <;> try cases h
  rename_i te hu
  split at h <;> try cases h
  rename_i sz' zs hs hz
  cases hszb : (Nat.ble (len * sz') 16777216 && Nat.beq zs.length sz') with
  | false => rw [hszb] at h; cases h
  | true =>
    simp only [hszb, cond_true] at h
    simp at hszb
    obtain ⟨hle, hzl⟩ := hszb
    split at h <;> try cases h
    rename_i out ho
    cases hp : out.all (fun d => persB d && cellB d) with
    | false => simp [hp] at h
    | true =>
      simp only [hp, cond_true, Option.some.injEq, D.sl.injEq, true_and] at h
      obtain ⟨rfl, rfl⟩ := h
      obtain ⟨z, hz1, hz2⟩ := zeroD_ok hz c
      have hzs : z.cells.size = sz' := by rw [hz2.1, hzl]
      let base : Array Value := (Array.range (len * sz')).map fun i => (if len * sz' = 0 then (#[] : Array Value) else z.cells)[i % (if len * sz' = 0 then (#[] : Array Value) else z.cells).size]!
      have hbase : Vs (CV c) base (List.replicate (len * sz') .any) := by
        refine ⟨by simp [base], fun i v d _ h2 => ?_⟩
        rw [List.getElem?_replicate] at h2
        split at h2 <;> simp only [Option.some.injEq, reduceCtorEq] at h2
        subst h2
        simp only [CV]
        exact .any v
      obtain ⟨vs', h1, h2⟩ := fill_ok (fun i => some (i * sz', sz')) (fun x => a.eval x) (fun x => evD e x) ps.toList _ base out hρ hbase ho
      have hol : out.length = len * sz' := by rw [fillD_len _ _ _ _ ho]; simp
      have hvl : vs'.size = len * sz' := by rw [h2.1, hol]
      have hm : More c.w (c.w.alloc (.cells vs' te)) vs' te := ⟨⟨(Bw.refl _ _).alloc (Nat.le_refl _) _, by simp⟩, heap_alloc_new _ _⟩
      have hrun : (execOp (fun x => a.eval x) o).run P c.w = .ok (.value (.slice (some ⟨c.w.heap.size, 0, none⟩) len len)) (c.w.alloc (.cells vs' te)) := by
        have hn : ¬ len * sz' > 2 ^ 24 := by omega
        have hff : Instr.fill (fun i => some (i * sz', sz')) base (ps.map fun p => (p.1, a.eval p.2)).toList = some vs' := by rw [Array.toList_map]; exact h1
        have hi : (Instr.buildSlice T len (ps.map fun p => (p.1, a.eval p.2))).run P c.w = .ok (.slice (some ⟨c.w.heap.size, 0, none⟩) len len) (c.w.alloc (.cells vs' te)) := by
          by_cases h0 : len * sz' = 0
          · simp only [base, if_pos h0] at hff
            simp only [Instr.buildSlice, Sem.run_bind, run_underlying hu, Result.andThen_ok, run_sz hs, if_neg hn, if_pos h0, Sem.run_pure, hff, newRow, run_newObj]
            rfl
          · simp only [base, if_neg h0] at hff
            simp only [Instr.buildSlice, Sem.run_bind, run_underlying hu, Result.andThen_ok, run_sz hs, if_neg hn, if_neg h0, Sem.run_pure, hz1, hff, newRow, run_newObj]
            rfl
        simp [execOp, hop, hi]
      unfold Oper.wp
      rw [hrun]
      show wpOps P ops Q l (a.put o.dst _) _
      rw [hdst]
      have hlen : ∀ i, i < len → ((out.drop (i * sz')).take sz').length = sz' := fun i hi => by
        have := Nat.mul_le_mul_right sz' hi
        rw [Nat.succ_mul] at this
        simp [hol]; omega
      have hOV : OV (c.made (c.w.alloc (.cells vs' te)) (.arr sz' len fun i => (out.drop (i * sz')).take sz')) (some c.w.heap.size) (.arr sz' len fun i => (out.drop (i * sz')).take sz') := by
        refine ⟨hlen, .inr ⟨_, vs', te, rfl, hm.new, by omega, fun i hi j d hd => ?_⟩⟩
        have hlt := (List.getElem?_eq_some_iff.1 hd).1
        simp at hlt
        rw [List.getElem?_take_of_lt (by omega), List.getElem?_drop] at hd
        have hlt2 : i * sz' + j < vs'.size := by rw [h2.1]; omega
        have h3 := h2.2 (i * sz' + j) (vs'.getD (i * sz' + j) undef) d (by simp [hlt2]) hd
        have hmem := List.all_eq_true.1 hp d (List.mem_of_getElem? hd)
        simp only [Bool.and_eq_true] at hmem
        refine ⟨vs'.getD (i * sz' + j) undef, by simp [hlt2], cv_one hmem.2 h3, (pers_pv hmem.1 h3).mono (fun _ h => h) fun b hb => ?_⟩
        exact Below.heap_alloc _ _ _ (hI.imm b hb).1
      refine hK () _ _ (rel_putM (c' := c.made (c.w.alloc (.cells vs' te)) (.arr sz' len fun i => (out.drop (i * sz')).take sz')) (fun t => made_tv hI hm.toMore0 _ (henv t)) hsz0 hd (made_inv hI hm.toMore0 _ hOV) rfl (blt_true ht) ?_)
      simp only [TV, AV, CV]
      refine ⟨sz', len, fun i => (out.drop (i * sz')).take sz', some ⟨c.w.heap.size, 0, none⟩, len, by simp [Ctx.made], by omega, rfl, Nat.le_refl _, .inr ⟨c.w.heap.size, by simp [Ctx.made], by simp, vs', te, hm.new, by rw [Nat.zero_add]; omega⟩⟩
end Nv
namespace Nv
open Go Go.RowKit
def subB : List Ob → List Ob → Prop
  | [], _ => True
  | .gone :: B, _ :: H => subB B H
  | o :: B, o' :: H => o = o' ∧ subB B H
  | _ :: _, [] => False
theorem subB_get : ∀ {B H : List Ob}, subB B H → ∀ {i : Nat} {o : Ob}, B[i]? = some o → o ≠ .gone → H[i]? = some o
  | [], _, _, i, o, h, _ => by simp at h
  | b :: B, [], h, i, o, hi, hg => by cases b <;> exact h.elim
  | b :: B, a :: H, h, i, o, hi, hg => by
    cases i with
    | zero =>
      simp only [List.getElem?_cons_zero, Option.some.injEq] at hi
      subst hi
      cases b with
      | gone => exact absurd rfl hg
      | _ => simp only [subB] at h; rw [h.1]; rfl
    | succ i =>
      simp only [List.getElem?_cons_succ] at hi ⊢
      have h2 : subB B H := by
        cases b with
        | gone => exact h
        | _ => exact h.2
      exact subB_get h2 hi hg
theorem cellsAt_bg {B H : List Ob} (hs : subB B H) {d : D} {cs : List D} (h : cellsAt B d = some cs) : cellsAt H d = some cs := by
  cases d <;> first | exact h | skip
  · rename_i id off
    simp only [cellsAt] at h ⊢
    cases hb : B[id]? with
    | none => rw [hb] at h; cases h
    | some o => rw [hb] at h; cases o <;> first | (rw [subB_get hs hb (fun e => Ob.noConfusion e)]; exact h) | cases h
  · rename_i id k off
    simp only [cellsAt] at h ⊢
    cases hb : B[id]? with
    | none => rw [hb] at h; cases h
    | some o => rw [hb] at h; cases o <;> first | (rw [subB_get hs hb (fun e => Ob.noConfusion e)]; exact h) | cases h
theorem idxD_bg {P : Program} {B H : List Ob} (hs : subB B H) {t : TypeId} {x i : D} {r : D × List Bool} (h : idxD P B t x i = some r) : idxD P H t x i = some r := by
  unfold idxD at h ⊢
  cases hu : P.underlying t with
  | none => rw [hu] at h; cases h
  | some u =>
    rw [hu] at h
    cases u with
    | slice e =>
      simp only at h ⊢
      cases hz : szO P e with
      | none => rw [hz] at h; cases h
      | some sz =>
        rw [hz] at h
        simp only at h ⊢
        cases x <;> cases i <;> first | exact h | skip
        rename_i id off len k n
        simp only at h ⊢
        cases hb : B[id]? with
        | none => rw [hb] at h; cases h
        | some o => rw [hb] at h; cases o <;> first | (rw [subB_get hs hb (fun e => Ob.noConfusion e)]; exact h) | cases h
    | _ => exact h
theorem opD_bg {P : Program} {B H : List Ob} (hs : subB B H) {ops : Array Oper} {env : List (Nat × D)} {al : List (Nat × Bool)} {orc : List Res} {g : Bool} {o : Oper} {fr : List Nat} {k : Nat} (hf : frk fr k o.op = true) {x : Res × List Bool × List Req × List Res}
    (h : opD P B ops env al orc g o = some x) : opD P H ops env al orc g o = some x := by
  unfold frk at hf
  simp only [Bool.and_eq_true] at hf
  have hl := hf.2
  unfold lkB at hl
  split at hl
  · rename_i t a hop
    unfold opD at h ⊢
    simp only [hop, pureOp] at h ⊢
    cases hc : cellsAt B (unwrap al (evD env a)) with
    | none => rw [hc] at h; cases h
    | some cs => rw [hc] at h; rw [cellsAt_bg hs hc]; exact h
  · rename_i t a b hop
    unfold opD at h ⊢
    simp only [hop, pureOp] at h ⊢
    cases hc : idxD P B t (unwrap al (evD env a)) (unwrap al (evD env b)) with
    | none => rw [hc] at h; cases h
    | some cs => rw [hc] at h; rw [idxD_bg hs hc]; exact h
  · cases hl
def stepDg (fr : List Nat) (B : List Ob) (P : Program) (ops : Array Oper) (k : Nat) (H : List Ob) (env : List (Nat × D)) (orc : List Res) (o : Oper) : Option (D × List Ob × List Bool × List Req × List Res) :=
  match wrB o.op with
  | true => match o.guard, heapF P H (fun x => unwrap [] (evD env x)) o.op with
    | none, some (d, H', none, bs) => some (d, H', bs, [], orc)
    | _, _ => none
  | false => match stepDr P ops k (bif frk fr k o.op then B else H) env orc o with
    | some (d, bs, rq, orc') => some (d, H, bs, rq, orc')
    | none => none
def runDg (fr : List Nat) (B : List Ob) (P : Program) (nt : Nat) (ops : Array Oper) : Nat → List Oper → List (Nat × D) → List Ob → List Res → Option (List (Nat × D) × List Ob × List Bool × List Req × List Res)
  | _, [], env, H, orc => some (env, H, [], [], orc)
  | k, o :: l, env, H, orc => match stepDg fr B P ops k H env orc o with
    | some (d, H1, bs, rq, orc1) => match putE nt o.dst d env with
      | some e => match runDg fr B P nt ops (k + 1) l e H1 orc1 with
        | some (e', H', bs', rq', orc') => some (e', H', bs ++ bs', rq ++ rq', orc')
        | none => none
      | none => none
    | none => none
def heapsG (fr : List Nat) (B : List Ob) (P : Program) (nt : Nat) (ops : Array Oper) : Nat → List Oper → List (Nat × D) → List Ob → List Res → List (List Ob)
  | _, [], _, _, _ => []
  | k, o :: l, env, H, orc => match stepDg fr B P ops k H env orc o with
    | some (d, H1, _, _, orc1) => match putE nt o.dst d env with
      | some e => bif wrB o.op then H1 :: heapsG fr B P nt ops (k + 1) l e H1 orc1 else heapsG fr B P nt ops (k + 1) l e H1 orc1
      | none => []
    | none => []
structure TraceG (fr : List Nat) (B : List Ob) (P : Program) (nt : Nat) (ops : Array Oper) (bs : List Bool) (rq : List Req) (k n : Nat) (E : Nat → List (Nat × D)) (HH : Nat → List Ob) (V : Nat → D) : Prop where
  step : ∀ i, k ≤ i → i < n → ∃ o orc b r orc', ops[i]? = some o ∧ stepDg fr B P ops i (HH i) (E i) orc o = some (V i, HH (i + 1), b, r, orc') ∧ (∀ x ∈ b, x ∈ bs) ∧ (∀ x ∈ r, x ∈ rq)
  put : ∀ i, k ≤ i → i < n → ∃ o, ops[i]? = some o ∧ putE nt o.dst (V i) (E i) = some (E (i + 1))
theorem traceG_of {fr : List Nat} {B : List Ob} {P : Program} {nt : Nat} {ops : Array Oper} : ∀ (l : List Oper) (k : Nat) (env env' : List (Nat × D)) (H H' : List Ob) (orc orc' : List Res) (bs : List Bool) (rq : List Req), (∀ (j : Nat), l[j]? = ops[k + j]? ∨ l.length ≤ j) →
    runDg fr B P nt ops k l env H orc = some (env', H', bs, rq, orc') → ∃ E HH V, E k = env ∧ HH k = H ∧ E (k + l.length) = env' ∧ HH (k + l.length) = H' ∧ TraceG fr B P nt ops bs rq k (k + l.length) E HH V ∧ ∀ q, k ≤ q → q ≤ k + l.length → HH q = H ∨ HH q ∈ heapsG fr B P nt ops k l env H orc
  | [], k, env, env', H, H', orc, orc', bs, rq, _, h => by
    simp only [runDg, Option.some.injEq, Prod.mk.injEq] at h
    obtain ⟨rfl, rfl, rfl, rfl, rfl⟩ := h
    exact ⟨fun _ => env, fun _ => H, fun _ => .any, rfl, rfl, rfl, rfl, ⟨fun i h1 h2 => by simp at h2; omega, fun i h1 h2 => by simp at h2; omega⟩, fun q _ _ => .inl rfl⟩
  | o :: l, k, env, env', H, H', orc, orc', bs, rq, hl, h => by
    simp only [runDg] at h
    split at h <;> try cases h
    rename_i d H1 b1 r1 orc1 hs
    split at h <;> try cases h
    rename_i e he
    split at h <;> try cases h
    rename_i b2 r2 hr
    have ho : ops[k]? = some o := by
      rcases hl 0 with h1 | h1
      · simpa using h1.symm
      · simp at h1
    obtain ⟨E, HH, V, hE, hH, hE', hH', hT, hU⟩ := traceG_of l (k + 1) e env' H1 H' orc1 orc' b2 r2 (fun j => by
      rcases hl (j + 1) with h1 | h1
      · left; simpa [Nat.add_assoc, Nat.add_comm 1 j] using h1
      · right; simp at h1; exact h1) hr
    refine ⟨fun i => if i = k then env else E i, fun i => if i = k then H else HH i, fun i => if i = k then d else V i, by simp, by simp, ?_, ?_, ⟨fun i h1 h2 => ?_, fun i h1 h2 => ?_⟩, fun q h1 h2 => ?_⟩
    · simp only [List.length_cons]
      rw [if_neg (by omega), show k + (l.length + 1) = k + 1 + l.length by omega]
      exact hE'
    · simp only [List.length_cons]
      rw [if_neg (by omega), show k + (l.length + 1) = k + 1 + l.length by omega]
      exact hH'
    · by_cases hik : i = k
      · subst hik
        simp only [if_true]
        rw [if_neg (by omega), hH]
        exact ⟨o, orc, b1, r1, orc1, ho, hs, fun x hx => List.mem_append_left _ hx, fun x hx => List.mem_append_left _ hx⟩
      · simp only [if_neg hik]
        rw [if_neg (by omega)]
        obtain ⟨o', orc', b, r, orc'', h3, h4, h5, h6⟩ := hT.step i (by omega) (by simp at h2; omega)
        exact ⟨o', orc', b, r, orc'', h3, h4, fun x hx => List.mem_append_right _ (h5 x hx), fun x hx => List.mem_append_right _ (h6 x hx)⟩
    · by_cases hik : i = k
      · subst hik
        simp only [if_true]
        rw [if_neg (by omega)]
        exact ⟨o, ho, by rw [hE]; exact he⟩
      · simp only [if_neg hik]
        rw [if_neg (by omega)]
        exact hT.put i (by omega) (by simp at h2; omega)
    · by_cases hik : q = k
      · exact .inl (if_pos hik)
      · have h3 := hU q (by omega) (by simp at h2; omega)
        show (if q = k then H else HH q) = H ∨ (if q = k then H else HH q) ∈ _
        rw [if_neg hik]
        simp only [heapsG, hs, he]
        cases hw : wrB o.op with
        | true =>
          simp only [cond_true]
          exact .inr (h3.elim (fun e => e ▸ List.mem_cons_self) fun e => List.mem_cons_of_mem _ e)
        | false =>
          simp only [cond_false]
          have h4 : H1 = H := by
            unfold stepDg at hs
            rw [hw] at hs
            simp only at hs
            split at hs
            · simp only [Option.some.injEq, Prod.mk.injEq] at hs; exact hs.2.1.symm
            · cases hs
          rw [h4] at h3
          rw [h4]
          exact h3
theorem env_valG {fr : List Nat} {B : List Ob} {P : Program} {nt : Nat} {ops : Array Oper} {bs : List Bool} {rq : List Req} {n : Nat} {E : Nat → List (Nat × D)} {HH : Nat → List Ob} {V : Nat → D} (hnd : dstsB ops = true) (hT : TraceG fr B P nt ops bs rq 0 n E HH V) :
    ∀ k, k ≤ n → ∀ t, find (E k) t = valL ops V (E 0) (· < k) t
  | 0, _, t => by rw [valL_none]; intro i _ h; omega
  | k + 1, hk, t => by
    have ih := env_valG hnd hT k (by omega) t
    obtain ⟨o, ho, hp⟩ := hT.put k (by omega) (by omega)
    unfold putE at hp
    split at hp
    · rename_i hd
      simp only [Option.some.injEq] at hp
      rw [← hp, ih]
      refine valL_congr hnd fun i hi => ⟨fun h => by omega, fun h => ?_⟩
      rcases Nat.lt_or_ge i k with h1 | h1
      · exact h1
      · have : i = k := by omega
        subst this
        rw [ho] at hi
        simp [hd] at hi
    · rename_i u hd
      cases hlt : Nat.blt u nt with
      | false => simp [hlt] at hp
      | true =>
        simp only [hlt, cond_true, Option.some.injEq] at hp
        rw [← hp]
        simp only [find]
        have hdk : (ops[k]?).bind (·.dst) = some u := by rw [ho]; exact hd
        cases hut : Nat.beq u t with
        | true =>
          obtain rfl := Nat.eq_of_beq_eq_true hut
          simp only [cond_true]
          rw [valL_some hnd hdk (by omega)]
        | false =>
          simp only [cond_false]
          rw [ih]
          have hne : u ≠ t := Nat.ne_of_beq_eq_false hut
          refine valL_congr hnd fun i hi => ⟨fun h => by omega, fun h => ?_⟩
          rcases Nat.lt_or_ge i k with h1 | h1
          · exact h1
          · have : i = k := by omega
            subst this
            rw [hdk] at hi
            simp at hi
            exact absurd hi hne
theorem same_heapG {fr : List Nat} {B : List Ob} {P : Program} {nt : Nat} {ops : Array Oper} {bs : List Bool} {rq : List Req} {n : Nat} {E : Nat → List (Nat × D)} {HH : Nat → List Ob} {V : Nat → D} (hT : TraceG fr B P nt ops bs rq 0 n E HH V) {p : Nat} :
    ∀ (m : Nat), p + m ≤ n → (∀ w o, p ≤ w → w < p + m → ops[w]? = some o → wrB o.op = false) → HH (p + m) = HH p
  | 0, _, _ => rfl
  | m + 1, hn, h => by
    have ih := same_heapG hT (p := p) m (by omega) fun w o h1 h2 => h w o h1 (by omega)
    obtain ⟨o, orc, b, r, orc', ho, hs, _⟩ := hT.step (p + m) (Nat.zero_le _) (by omega)
    have hw := h (p + m) o (by omega) (by omega) ho
    unfold stepDg at hs
    rw [hw] at hs
    simp only at hs
    split at hs
    · simp only [Option.some.injEq, Prod.mk.injEq] at hs
      exact hs.2.1.symm.trans ih
    · cases hs
theorem drawG_sound {fr : List Nat} {B : List Ob} {P : Program} {F : Fr} [GF P F] {nt : Nat} {ops : Array Oper} {bs : List Bool} {rq : List Req} {E : Nat → List (Nat × D)} {HH : Nat → List Ob} {V : Nat → D} (hfl : flowB ops = true) (hcm : cmpF fr ops = true)
    (hT : TraceG fr B P nt ops bs rq 0 ops.size E HH V) (hbg : ∀ q, q ≤ ops.size → subB B (HH q)) (hb : ∀ b ∈ bs, b = true) (hq : ∀ q ∈ rq, q.ok P) {Q : Exit → Act → World → Prop} (orc : List Res)
    (hQ : ∀ a c, RInv F nt ops ops.size ⟨E ops.size, HH ops.size, orc⟩ a c → Q .normal a c.w) :
    ∀ (fuel : Nat) (listed : Array Bool) (a : Act) (c : Ctx), DWInv F nt ops HH V (E 0) listed a c → cnt listed + fuel = ops.size → wpAny P .any ops Q fuel listed a c.w := by
  simp only [flowB, Bool.and_eq_true, List.all_eq_true] at hfl
  obtain ⟨hnd, hfl⟩ := hfl
  have flow : ∀ i o, ops[i]? = some o → flowAt ops (Region.before ops) i o = true := fun i o ho => by
    have hlt := (Array.getElem?_eq_some_iff.1 ho).1
    refine hfl (o, i) ?_
    rw [List.mem_zipIdx_iff_getElem?]
    simpa using ho
  have fin : ∀ (listed : Array Bool) a c, DWInv F nt ops HH V (E 0) listed a c → (∀ i, i < ops.size → listed.getD i false = true) → Q .normal a c.w := fun listed a c hD hall => by
    have hval : ∀ t, find (E ops.size) t = valL ops V (E 0) (fun i => listed.getD i false = true) t := fun t => by
      rw [env_valG hnd hT ops.size (Nat.le_refl _) t]
      refine valL_congr hnd fun i hi => ⟨fun h => hall i h, fun _ => ?_⟩
      obtain ⟨o, ho, _⟩ := Option.bind_eq_some_iff.1 hi
      exact (Array.getElem?_eq_some_iff.1 ho).1
    have hHf : c.H = HH ops.size := by
      obtain ⟨q, hq1, hq2, hq3, hq4⟩ := hD.H
      rw [hq2]
      have := same_heapG hT (p := q) (ops.size - q) (by omega) fun w o h1 h2 ho => by
        cases hw : wrB o.op with
        | false => rfl
        | true =>
          have h3 := hq4 w o ho hw h1
          rw [hall w (by omega)] at h3; cases h3
      rw [show q + (ops.size - q) = ops.size by omega] at this
      exact this.symm
    refine hQ a c ⟨hHf, hD.inv, fun t => ?_, hD.size, hD.defers, fun t j w d hf => ?_⟩
    · show GV _ _ _ (find (E ops.size) t)
      rw [hval]; exact hD.env t
    · have hf : find (E ops.size) t = .opt j w d := hf
      rw [hval] at hf
      have := hD.opt t j w d hf
      rcases Nat.lt_or_ge j listed.size with h | h
      · rw [hD.lsize] at h; exact h
      · simp [Array.getElem?_eq_none h] at this
  -- nothing is ready: all are listed
  have stuckAll : ∀ (listed : Array Bool), listed.size = ops.size → Region.ready .any ops listed = [] → ∀ i, i < ops.size → listed.getD i false = true := by
    intro listed hls hr i
    induction i using Nat.strongRecOn with
    | _ i ih =>
      intro hi
      cases hl : listed.getD i false with
      | true => rfl
      | false =>
        exfalso
        have : i ∈ Region.ready .any ops listed := by
          rw [mem_ready]
          refine ⟨by simp [hls, hi] at hl ⊢; exact hl, ops[i], by simp [hi], fun e he hbi => ?_⟩
          have h1 := flow i ops[i] (by simp [hi])
          simp only [flowAt, Bool.and_eq_true] at h1
          have h2 := Array.all_eq_true'.1 h1.1.1 e he
          simp only [hbi, Bool.not_true, Bool.false_or] at h2
          have h3 := blt_true h2
          exact ih e.on h3 (by omega)
        rw [hr] at this
        cases this
  intro fuel
  induction fuel with
  | zero =>
    intro listed a c hD hcnt
    have hall : ∀ i, i < ops.size → listed.getD i false = true := by
      have := cnt_full (listed := listed) (by rw [hD.lsize]; omega)
      rw [hD.lsize] at this
      exact this
    refine ⟨?_, fin listed a c hD hall⟩
    cases hr : Region.ready .any ops listed with
    | nil => rfl
    | cons i r =>
      exfalso
      have : i ∈ Region.ready .any ops listed := by rw [hr]; exact List.mem_cons_self
      obtain ⟨h1, o, ho, _⟩ := mem_ready.1 this
      have hi := (Array.getElem?_eq_some_iff.1 ho).1
      have h2 := hall i hi
      simp [hD.lsize, hi] at h1 h2
      rw [h1] at h2
      cases h2
  | succ fuel ih =>
    intro listed a c hD hcnt
    refine ⟨fun hr => fin listed a c hD (stuckAll listed hD.lsize hr), fun i hi => ?_⟩
    obtain ⟨hun, o, ho, hall⟩ := mem_ready.1 hi
    have hilt := (Array.getElem?_eq_some_iff.1 ho).1
    have hunf : listed.getD i false = false := by simp [hD.lsize, hilt] at hun ⊢; exact hun
    have hwaits : ∀ j, Waits ops i j → listed.getD j false = true := fun j ⟨o', ho', e, he, hbi, hon⟩ => by
      rw [ho] at ho'
      cases ho'
      rw [← hon]
      exact hall e he hbi
    obtain ⟨o', orc0, b, r, orc1, ho', hstep, hb1, hr1⟩ := hT.step i (Nat.zero_le _) hilt
    rw [ho] at ho'
    cases ho'
    have reach : ∀ k l, k < ops.size → ((Region.before ops).getD k 0).testBit l = true → listed.getD k false = true → listed.getD l false = true := fun k l hk hb2 hl =>
      closed_reach hD.closed (before_reach ops k l hk hb2) (fun j hj => hD.closed _ _ hj hl)
    have reachI : ∀ l, ((Region.before ops).getD i 0).testBit l = true → listed.getD l false = true := fun l hb2 => closed_reach hD.closed (before_reach ops i l hilt hb2) hwaits
    -- the objects are those of the text's order, where they are looked at
    have hHi : (stillB o.op || frk fr i o.op) = false → c.H = HH i := fun hst => by
      obtain ⟨q, hq1, hq2, hq3, hq4⟩ := hD.H
      rw [hq2]
      rcases Nat.lt_or_ge i q with hiq | hiq
      · have := same_heapG hT (p := i) (q - i) (by omega) fun w ow h1 h2 how => by
          cases hw : wrB ow.op with
          | false => rfl
          | true =>
            have hwl := (Array.getElem?_eq_some_iff.1 how).1
            have h3 := hq3 w ow how hw (by omega)
            have hne : w ≠ i := fun e => by subst e; rw [hunf] at h3; cases h3
            rcases cmpF_spec hcm how ho hw hst hne with ⟨_, h5⟩ | ⟨h4, _⟩
            · rw [reach w i hwl h5 h3] at hunf; cases hunf
            · omega
        rw [show i + (q - i) = q by omega] at this
        exact this
      · have := same_heapG hT (p := q) (i - q) (by omega) fun w ow h1 h2 how => by
          cases hw : wrB ow.op with
          | false => rfl
          | true =>
            have h3 := hq4 w ow how hw h1
            have hne : w ≠ i := by omega
            rcases cmpF_spec hcm how ho hw hst hne with ⟨h4, _⟩ | ⟨_, h5⟩
            · omega
            · rw [reachI w h5] at h3; cases h3
        rw [show q + (i - q) = i by omega] at this
        exact this.symm
    have hfa := flow i o ho
    simp only [flowAt, Bool.and_eq_true] at hfa
    obtain ⟨⟨hf1, hf2⟩, hf3⟩ := hfa
    -- what the operation looks at has its value of the text's order
    have same : ∀ t ∈ needs ops o, valL ops V (E 0) (fun i => listed.getD i false = true) t = find (E i) t := fun t ht => by
      rw [env_valG hnd hT i (by omega) t]
      refine valL_congr hnd fun k hk => ?_
      have h1 := List.all_eq_true.1 hf3 t ht
      obtain ⟨ok, hok, hdk⟩ := Option.bind_eq_some_iff.1 hk
      have hklt := (Array.getElem?_eq_some_iff.1 hok).1
      have h2 := List.all_eq_true.1 h1 (ok, k) (by rw [List.mem_zipIdx_iff_getElem?]; simpa using hok)
      simp only [hdk] at h2
      have e1 : Nat.beq t t = true := Nat.beq_refl t
      rw [e1] at h2
      simp only [Bool.not_true, Bool.false_or, Bool.or_eq_true, Bool.and_eq_true] at h2
      rcases h2 with (h2 | ⟨h2, h3⟩) | ⟨h2, h3⟩
      · obtain rfl := Nat.eq_of_beq_eq_true h2
        exact ⟨fun h => (by rw [hunf] at h; cases h), fun h => by omega⟩
      · exact ⟨fun _ => blt_true h2, fun _ => closed_reach hD.closed (before_reach ops i k hilt h3) hwaits⟩
      · have hik := blt_true h2
        refine ⟨fun h => ?_, fun h => by omega⟩
        have := closed_reach hD.closed (before_reach ops k i hklt h3) (fun j hj => hD.closed _ _ hj h)
        rw [hunf] at this
        cases this
    have hops : ∀ x ∈ o.op.operands.toList, GV (yielded ops a.tmps) c (a.eval x) (evD (E i) x) := fun x hx => by
      cases x with
      | tmp t =>
        show GV _ _ _ (find (E i) t)
        rw [← same t (by simp only [needs, List.mem_append, List.mem_filterMap]; exact .inl ⟨.tmp t, hx, rfl⟩)]
        exact hD.env t
      | const v => exact gv_of_tv (tv_dv c v)
      | global g => exact gv_of_tv tv_any
      | func f => exact gv_of_tv ⟨#[], rfl, rfl, fun i v d h1 _ => by simp at h1⟩
    have hgf : GuardFacts ops a c (E i) (gch ops 20 o.guard) := fun p hp t ht => by
      rw [← same t (by simp only [needs, List.mem_append, List.mem_filterMap]; exact .inr ⟨p, hp, ht⟩)]
      exact hD.env t
    -- the new state
    have newH : wrB o.op = false → ∀ c' : Ctx, c'.H = c.H → ∃ q, q ≤ ops.size ∧ c'.H = HH q ∧ (∀ w ow, ops[w]? = some ow → wrB ow.op = true → w < q → (listed.setIfInBounds i true).getD w false = true) ∧ (∀ w ow, ops[w]? = some ow → wrB ow.op = true → q ≤ w → (listed.setIfInBounds i true).getD w false = false) := fun hwo c' hc' => by
      obtain ⟨q, hq1, hq2, hq3, hq4⟩ := hD.H
      have hne : ∀ w ow, ops[w]? = some ow → wrB ow.op = true → i ≠ w := fun w ow how hw e => by subst e; rw [ho] at how; cases how; rw [hwo] at hw; cases hw
      exact ⟨q, hq1, hc'.trans hq2, fun w ow how hw hwq => by rw [getD_set_ne false (hne w ow how hw)]; exact hq3 w ow how hw hwq, fun w ow how hw hwq => by rw [getD_set_ne false (hne w ow how hw)]; exact hq4 w ow how hw hwq⟩
    have new : ∀ v c', Inv F c' → (∃ q, q ≤ ops.size ∧ c'.H = HH q ∧ (∀ w ow, ops[w]? = some ow → wrB ow.op = true → w < q → (listed.setIfInBounds i true).getD w false = true) ∧ (∀ w ow, ops[w]? = some ow → wrB ow.op = true → q ≤ w → (listed.setIfInBounds i true).getD w false = false)) →
        (∀ u e, TV c u e → TV c' u e) → (∀ d, V i = d → GV (yielded ops (a.put o.dst v).tmps) c' v d) → (∀ j w d, V i = .opt j w d → listed.getD j false = true) →
        wpAny P .any ops Q fuel (listed.setIfInBounds i true) (a.put o.dst v) c'.w := fun v c' hI' hHn htr hv hvo => by
      have hL : ∀ j, (listed.setIfInBounds i true).getD j false = true ↔ j = i ∨ listed.getD j false = true := fun j => by
        by_cases hji : j = i
        · subst hji; simp [hD.lsize, hilt]
        · rw [getD_set_ne false (Ne.symm hji)]; simp [hji]
      have hvalo : ∀ t, (∀ u, o.dst = some u → u ≠ t) → valL ops V (E 0) (fun j => (listed.setIfInBounds i true).getD j false = true) t = valL ops V (E 0) (fun j => listed.getD j false = true) t := fun t ht => by
        refine valL_congr hnd fun k hk => ?_
        show (listed.setIfInBounds i true).getD k false = true ↔ _
        rw [hL]
        refine ⟨fun h => ?_, .inr⟩
        rcases h with rfl | h
        · rw [ho] at hk
          exact absurd rfl (ht t hk)
        · exact h
      have hyj : ∀ j, listed.getD j false = true → yielded ops (a.put o.dst v).tmps j = yielded ops a.tmps j := fun j hj => yielded_put fun t ht e => by
        have := dsts_spec hnd (show (ops[i]?).bind (·.dst) = some t by rw [ho]; exact ht) e
        subst this
        rw [hunf] at hj
        cases hj
      have keep : ∀ t, GV (yielded ops (a.put o.dst v).tmps) c' (a.tmps.getD t undef) (valL ops V (E 0) (fun j => listed.getD j false = true) t) := fun t => by
        have h1 := gv_trans htr (hD.env t)
        cases hf : valL ops V (E 0) (fun j => listed.getD j false = true) t <;> rw [hf] at h1 <;> try exact h1
        rename_i j w d
        simp only [GV] at h1 ⊢
        rw [hyj j (hD.opt t j w d hf)]
        exact h1
      refine ih _ _ c' ⟨hHn, hI', fun t => ?_, by rw [size_put]; exact hD.size, by rw [defers_put]; exact hD.defers, fun t j w d hf => ?_, by simp [hD.lsize], fun p q hpq hp => ?_⟩ ?_
      · by_cases hdt : o.dst = some t
        · have hit : (ops[i]?).bind (·.dst) = some t := by rw [ho]; exact hdt
          rw [valL_some hnd hit ((hL i).2 (.inl rfl))]
          have htl : t < a.tmps.size := by
            obtain ⟨o2, ho2, hp⟩ := hT.put i (Nat.zero_le _) hilt
            rw [ho] at ho2
            cases ho2
            rw [hdt] at hp
            simp only [putE] at hp
            cases hlt : Nat.blt t nt with
            | false => simp [hlt] at hp
            | true => rw [hD.size]; exact blt_true hlt
          have e : (a.put o.dst v).tmps.getD t undef = v := by rw [hdt]; exact getD_put_same htl
          rw [e]
          exact hv _ rfl
        · rw [hvalo t (fun u hu e => hdt (by rw [hu, e])), getD_put hdt]
          exact keep t
      · rw [hL]
        right
        by_cases hdt : o.dst = some t
        · have hit : (ops[i]?).bind (·.dst) = some t := by rw [ho]; exact hdt
          rw [valL_some hnd hit ((hL i).2 (.inl rfl))] at hf
          exact hvo j w d hf
        · rw [hvalo t (fun u hu e => hdt (by rw [hu, e]))] at hf
          exact hD.opt t j w d hf
      · rw [hL] at hp ⊢
        right
        rcases hp with rfl | hp
        · exact hwaits q hpq
        · exact hD.closed p q hpq hp
      · rw [cnt_set (by rw [hD.lsize]; exact hilt) hunf]
        omega
    unfold wpOp
    simp only [ho]
    unfold stepDg at hstep
    cases hwr : wrB o.op with
    | true =>
      rw [hwr] at hstep
      simp only at hstep
      split at hstep <;> try cases hstep
      rename_i hgd hheap
      have hw : Region.wanted o (yielded ops a.tmps) = true := by simp [Region.wanted, hgd]
      simp only [hw, if_true]
      have hst : (stillB o.op || frk fr i o.op) = false := by rw [still_not_wr hwr, wr_not_frk hwr]; rfl
      have hρ : ∀ x ∈ o.op.operands.toList, TV c (a.eval x) (unwrap [] (evD (E i) x)) := fun x hx => unwrap_ok (a := a) (ops := ops) (by simp) (hops x hx)
      obtain ⟨v, c', hrun', hI', hH', htr, htv⟩ := heapF_ok (ρc := a.eval) hD.inv hρ (by rw [hHi hst]; exact hheap) (fun b hb' => hb b (hb1 b hb'))
      have hnew := new v c' hI' ⟨i + 1, by omega, hH', fun w ow how hw hwq => by
          rcases Nat.lt_or_ge w i with h1 | h1
          · rw [getD_set_ne false (by omega)]
            rcases cmpF_spec hcm how ho hw hst (by omega) with ⟨h4, _⟩ | ⟨_, h5⟩
            · omega
            · exact reachI w h5
          · have : w = i := by omega
            subst this
            simp [hD.lsize, hilt], fun w ow how hw hwq => by
          rw [getD_set_ne false (by omega)]
          cases hl : listed.getD w false with
          | false => rfl
          | true =>
            have hwl := (Array.getElem?_eq_some_iff.1 how).1
            rcases cmpF_spec hcm how ho hw hst (by omega) with ⟨_, h5⟩ | ⟨h4, _⟩
            · rw [reach w i hwl h5 hl] at hunf; cases hunf
            · omega⟩ (fun u e h => htr u e h) (fun d' hd' => by rw [← hd']; exact gv_of_tv htv) (fun j w d' h => by
          rw [h] at htv
          simp only [TV, AV] at htv
          exact absurd htv cv_not_opt)
      refine .inl ?_
      unfold Oper.wp
      rcases hrun' with h1 | ⟨h1, rfl⟩
      · rw [h1]; exact hnew
      · rw [h1]; exact hnew
    | false =>
    rw [hwr] at hstep
    simp only at hstep
    split at hstep
    case h_2 => cases hstep
    rename_i d0 b0 r0 o0 hstep0
    simp only [Option.some.injEq, Prod.mk.injEq] at hstep
    obtain ⟨hV0, _, rfl, rfl, rfl⟩ := hstep
    rw [hV0] at hstep0
    rename_i hstep
    have hstep := hstep0
    unfold stepDr at hstep
    split at hstep <;> try cases hstep
    rename_i g hg
    have hopc : ∀ {x}, opD P (bif frk fr i o.op then B else HH i) ops (E i) (gch ops 20 o.guard) orc0 g o = some x → opD P c.H ops (E i) (gch ops 20 o.guard) orc0 g o = some x := fun {x} h => by
      cases hfr : frk fr i o.op with
      | true => rw [hfr] at h; exact opD_bg (by obtain ⟨q, hq1, hq2, _⟩ := hD.H; rw [hq2]; exact hbg q hq1) hfr h
      | false =>
        rw [hfr] at h
        cases hst : stillB o.op with
        | true => rw [opD_still (HH i) hst]; exact h
        | false => rw [hHi (by rw [hst, hfr]; rfl)]; exact h
    split at hstep
    · rename_i d bs0 rq0 orc2 j want hop hgd
      cases hlt : Nat.blt j i with
      | false => simp [hlt] at hstep
      | true =>
        simp only [hlt, cond_true, Option.some.injEq, Prod.mk.injEq] at hstep
        obtain ⟨hV, rfl, rfl, rfl⟩ := hstep
        have hji := blt_true hlt
        have hyj : ∀ v, yielded ops (a.put o.dst v).tmps j = yielded ops a.tmps j := fun v => yielded_put fun t ht e => by
          have := dsts_spec hnd (show (ops[i]?).bind (·.dst) = some t by rw [ho]; exact ht) e
          omega
        have hjl : listed.getD j false = true := by
          rw [hgd] at hf2
          simp only at hf2
          obtain ⟨e, he, h1⟩ := Array.any_eq_true'.1 hf2
          simp only [Bool.and_eq_true] at h1
          rw [← Nat.eq_of_beq_eq_true h1.2]
          exact hall e he h1.1
        have hwant : Region.wanted o (yielded ops a.tmps) = (yielded ops a.tmps j == some want) := by simp [Region.wanted, hgd]
        have hvo : ∀ j' w d', V i = .opt j' w d' → listed.getD j' false = true := fun j' w d' h => by rw [← hV] at h; cases h; exact hjl
        cases hw : Region.wanted o (yielded ops a.tmps) with
        | true =>
          simp only [if_true]
          refine .inl (op_sound hD.inv hops hgf hg hw (hopc hop) (fun b hb' => hb b (hb1 b hb')) (fun q hq' => hq q (hr1 q hq')) fun v c' hI' haf => ?_)
          obtain ⟨hgo, _, htv⟩ := haf
          refine new v c' hI' (newH hwr c' hgo.H) (fun _ _ => hgo.tv) (fun d' hd' => ?_) hvo
          rw [← hd', ← hV]
          refine .inl ⟨?_, htv⟩
          rw [hyj]
          rw [hw] at hwant
          simpa using hwant.symm
        | false =>
          simp only [Bool.false_eq_true, if_false]
          refine new undef c hD.inv (newH hwr c rfl) (fun _ _ h => h) (fun d' hd' => ?_) hvo
          rw [← hd', ← hV]
          refine .inr ⟨?_, rfl⟩
          rw [hyj]
          rw [hw] at hwant
          simpa using hwant.symm
    · rename_i d bs0 rq0 orc2 hop hgd
      simp only [Option.some.injEq, Prod.mk.injEq] at hstep
      obtain ⟨hV, rfl, rfl, rfl⟩ := hstep
      have hw : Region.wanted o (yielded ops a.tmps) = true := by simp [Region.wanted, hgd]
      simp only [hw, if_true]
      refine .inl (op_sound hD.inv hops hgf hg hw (hopc hop) (fun b hb' => hb b (hb1 b hb')) (fun q hq' => hq q (hr1 q hq')) fun v c' hI' haf => ?_)
      obtain ⟨hgo, _, htv⟩ := haf
      refine new v c' hI' (newH hwr c' hgo.H) (fun _ _ => hgo.tv) (fun d' hd' => ?_) (fun j w d' h => ?_)
      · rw [← hd', ← hV]; exact gv_of_tv htv
      · rw [← hV] at h
        subst h
        simp only [TV, AV] at htv
        exact absurd htv cv_not_opt
    · cases hstep
def regGb (fr : List Nat) (B : List Ob) (P : Program) (ops : Array Oper) (orc : List Res) (keep : List Nat) (hn : Nat) (s : St) : Option (St × List Bool × List Req) :=
  bif flowB ops && P.follows .mixedOrders && cmpF fr ops then
    (match runDg fr B P s.nt ops 0 ops.toList s.env s.H orc with
    | some (env', H', bs, rq, _) => (cutS hn ⟨s.nt, fin env' keep, H'⟩).map fun s' => (s', bs, rq)
    | none => none) else none
def heapsR (fr : List Nat) (B : List Ob) (P : Program) (ops : Array Oper) (orc : List Res) (s : St) : List (List Ob) := s.H :: heapsG fr B P s.nt ops 0 ops.toList s.env s.H orc
theorem any_regionG {P : Program} {s : St} {ops : Array Oper} (fr : List Nat) (B : List Ob) (orc : List Res) (keep : List Nat) (hn : Nat) {s' : St} {bs : List Bool} {rq : List Req}
    (h : regGb fr B P ops orc keep hn s = some (s', bs, rq)) (hbg : ∀ x ∈ heapsR fr B P ops orc s, subB B x) (hb : ∀ b ∈ bs, b = true) (hq : ∀ q ∈ rq, q.ok P) {F : Fr} {a : Act} {w : World} (hG : GF P F) (hR : Rel F s a w) {K : Act → World → Prop} {Q' : Exit → Act → World → Prop} (hK : ∀ a w, Rel F s' a w → K a w) :
    P.follows .mixedOrders = true ∧ wpAny P .any ops (QK Q' K) ops.size (Array.replicate ops.size false) a w.drew := by
  obtain ⟨c, rfl, hH, hI, henv, hsz, hd⟩ := hR
  unfold regGb at h
  cases hc : (flowB ops && P.follows .mixedOrders && cmpF fr ops) with
  | false => rw [hc] at h; cases h
  | true =>
    rw [hc] at h
    simp only [cond_true] at h
    simp only [Bool.and_eq_true] at hc
    split at h <;> try cases h
    rename_i env' H' bs0 rq0 orc0 hrun
    obtain ⟨s1, hcut, heq⟩ := Option.map_eq_some_iff.1 h
    simp only [Prod.mk.injEq] at heq
    obtain ⟨rfl, rfl, rfl⟩ := heq
    refine ⟨hc.1.2, ?_⟩
    obtain ⟨E, HH, V, hE0, hH0, hE1, hH1, hT, hU⟩ := traceG_of ops.toList 0 s.env env' s.H H' orc orc0 bs0 rq0 (fun j => .inl (by simp)) hrun
    simp only [Array.length_toList, Nat.zero_add] at hE1 hH1 hT hU
    let c' : Ctx := { c with w := c.w.drew }
    have hgo : Goes c c' := ⟨rfl, rfl, fun _ h => h, fun _ _ => rfl, fun b hb => (hI.imm b hb).1, fun id b hb => (hI.loc id b hb).2.1⟩
    have hI' : Inv F c' := hI.goes hgo (Bw.refl _ _).drew (fun _ h => .inl h)
    have hnone : ∀ i, ¬ (Array.replicate ops.size false).getD i false = true := fun i h => by rw [getD_rep_false] at h; cases h
    have hval : ∀ t, valL ops V (E 0) (fun i => (Array.replicate ops.size false).getD i false = true) t = find s.env t := fun t => by rw [valL_none (fun i _ => hnone i), hE0]
    have hD : DWInv F s.nt ops HH V (E 0) (Array.replicate ops.size false) a c' := by
      refine ⟨⟨0, Nat.zero_le _, hH.trans hH0.symm, fun w o _ _ h => by omega, fun w o _ _ _ => by rw [getD_rep_false]⟩, hI', fun t => ?_, hsz, hd, fun t j w d hf => ?_, by simp, fun i j _ h => absurd h (hnone i)⟩
      · rw [hval]; exact gv_of_tv (hgo.tv (henv t))
      · rw [hval] at hf
        have := henv t
        rw [hf] at this
        simp only [TV, AV] at this
        exact absurd this cv_not_opt
    refine drawG_sound hc.1.1 hc.2 hT (fun q hq => hbg _ ((hU q (Nat.zero_le _) hq).elim (fun e => e ▸ List.mem_cons_self) fun e => List.mem_cons_of_mem _ e)) hb hq [] (fun a' c'' hR => ?_) ops.size _ a c' hD (by simp [cnt, List.countP_replicate])
    have hR' := rinv_fin hR keep
    have e1 : E ops.size = env' := hE1
    have e2 : HH ops.size = H' := hH1
    simp only [e1, e2] at hR'
    exact hK _ _ (le_cut hcut F a' c''.w hR')
theorem rgvB {P : Program} {Q : Exit → St → Prop} {s : St} {id : Nat} {ops : Array Oper} (fr : List Nat) (B : List Ob) (hs : List (List Ob)) (k : Nat) (orcA : List Res) (keepA : List Nat) (hnA : Nat) (s1 : St) (bsA : List Bool) (rqA : List Req) (hbA : ∀ b ∈ bsA, b = true) (hqA : Reqs P rqA) (hbg : ∀ x ∈ hs, subB B x)
    {α : Type} (S2 : α → St) (hle : LeE s1 S2) (orcB : List Res) (keepB : List Nat) (hnB : Nat) (s3 : α → St) (bsB : α → List Bool) (rqB : α → List Req) (hbB : ∀ x, ∀ b ∈ bsB x, b = true) (hqB : ∀ x, Reqs P (rqB x)) (kk : ∀ x, Q .normal (s3 x))
    (hh : heapsR fr B P (ops.extract 0 k) orcA s = hs := by kernel_rfl) (hA : regGb fr B P (ops.extract 0 k) orcA keepA hnA s = some (s1, bsA, rqA) := by kernel_rfl) (hB : ∀ x, regFrom P ops k orcB keepB hnB (S2 x) = some (s3 x, bsB x, rqB x) := by intro _; kernel_rfl)
    (hc : (flowB ops && cutAt ops k && chainB ops k && Nat.ble k ops.size) = true := by kernel_rfl) : AWP P (.region id ops true) Q s := by
  intro F a w hG hR
  simp only [Bool.and_eq_true] at hc
  obtain ⟨⟨⟨hfl, hct⟩, hch⟩, hk⟩ := hc
  have hk := Nat.le_of_ble_eq_true hk
  have hnd : dstsB ops = true := by simp only [flowB, Bool.and_eq_true] at hfl; exact hfl.1
  obtain ⟨hmo, hany⟩ := any_regionG fr B orcA keepA hnA hA (by rw [hh]; exact hbg) hbA hqA.all (Q' := fun e a' w' => ∃ s', Q e s' ∧ Rel F s' a' w') hG hR (K := fun a w => ∃ x, Rel F (S2 x) a w) (fun a w h => hle F a w h)
  have esz : (ops.extract 0 k).size = k := by rw [Array.size_extract]; omega
  rw [esz] at hany
  refine wp_region_any hmo ?_
  have hfin := any_prefix (P := P) (Q := fun e a' w' => ∃ s', Q e s' ∧ Rel F s' a' w') (K := fun a w => ∃ x, Rel F (S2 x) a w) hk hfl hct (fun a w ⟨x, hR2⟩ listed hls hl =>
      any_chain hfl hch (ops.size - k) k listed a w (by omega) (Nat.le_refl _) hls hl (ops_from hnd (hB x) (hbB x) (hqB x).all (fun a w h => ⟨_, kk x, h⟩) hR2))
    k (Array.replicate k false) (Array.replicate ops.size false) a w.drew (by simp) (by simp) (fun i => by rw [getD_rep_false, getD_rep_false]) (fun i j _ h => by rw [getD_rep_false] at h; cases h) (by simp [cnt, List.countP_replicate]) hany
  rw [show k + (ops.size - k) = ops.size by omega] at hfin
  exact hfin
end Nv
