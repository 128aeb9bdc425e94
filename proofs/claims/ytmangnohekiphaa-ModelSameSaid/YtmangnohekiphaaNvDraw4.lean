/- A region that draws its order and changes objects, from a place on before which all is done. -/
import Derived.Test.YtmangnohekiphaaNvDraw3
namespace Nv
open Go Go.RowKit
/-- **A region that draws its order and changes objects**: every order gives what the text's order gives. -/
theorem drawW_from {P : Program} {F : Fr} {nt : Nat} {ops : Array Oper} {bs : List Bool} {rq : List Req} {E : Nat → List (Nat × D)} {HH : Nat → List Ob} {V : Nat → D} (hfl : flowB ops = true) (p : Nat)
    (hcm : ∀ {w i : Nat} {ow oi : Oper}, ops[w]? = some ow → ops[i]? = some oi → wrB ow.op = true → stillB oi.op = false → w ≠ i → p ≤ i → (i < w ∧ ((Region.before ops).getD w 0).testBit i = true) ∨ (w < i ∧ ((Region.before ops).getD i 0).testBit w = true))
    (hT : TraceW P nt ops bs rq 0 ops.size E HH V) (hb : ∀ b ∈ bs, b = true) (hq : ∀ q ∈ rq, q.ok P) {Q : Exit → Act → World → Prop} (orc : List Res)
    (hQ : ∀ a c, RInv F nt ops ops.size ⟨E ops.size, HH ops.size, orc⟩ a c → Q .normal a c.w) :
    ∀ (fuel : Nat) (listed : Array Bool) (a : Act) (c : Ctx), DWInv F nt ops HH V (E 0) listed a c → (∀ j, j < p → j < ops.size → listed.getD j false = true) → cnt listed + fuel = ops.size → wpAny P .any ops Q fuel listed a c.w := by
  simp only [flowB, Bool.and_eq_true, List.all_eq_true] at hfl
  obtain ⟨hnd, hfl⟩ := hfl
  have flow : ∀ i o, ops[i]? = some o → flowAt ops (Region.before ops) i o = true := fun i o ho => by
    have hlt := (Array.getElem?_eq_some_iff.1 ho).1
    refine hfl (o, i) ?_
    rw [List.mem_zipIdx_iff_getElem?]
    simpa using ho
  have fin : ∀ (listed : Array Bool) a c, DWInv F nt ops HH V (E 0) listed a c → (∀ i, i < ops.size → listed.getD i false = true) → Q .normal a c.w := fun listed a c hD hall => by
    have hval : ∀ t, find (E ops.size) t = valL ops V (E 0) (fun i => listed.getD i false = true) t := fun t => by
      rw [env_valW hnd hT ops.size (Nat.le_refl _) t]
      refine valL_congr hnd fun i hi => ⟨fun h => hall i h, fun _ => ?_⟩
      obtain ⟨o, ho, _⟩ := Option.bind_eq_some_iff.1 hi
      exact (Array.getElem?_eq_some_iff.1 ho).1
    have hHf : c.H = HH ops.size := by
      obtain ⟨q, hq1, hq2, hq3, hq4⟩ := hD.H
      rw [hq2]
      have := same_heap hT (p := q) (ops.size - q) (by omega) fun w o h1 h2 ho => by
        cases hw : wrB o.op with
        | false => rfl
        | true =>
          have h3 := hq4 w o ho hw h1
          rw [hall w (by omega)] at h3; cases h3
      rw [show q + (ops.size - q) = ops.size by omega] at this
      exact this.symm
    refine hQ a c ⟨hHf, hD.inv, fun t => ?_, hD.size, hD.defers, fun t j w d hf => ?_⟩
    · show GV _ _ _ (find (E ops.size) t)
      rw [hval]; exact hD.env t
    · have hf : find (E ops.size) t = .opt j w d := hf
      rw [hval] at hf
      have := hD.opt t j w d hf
      rcases Nat.lt_or_ge j listed.size with h | h
      · rw [hD.lsize] at h; exact h
      · simp [Array.getElem?_eq_none h] at this
  -- nothing is ready: all are listed
  have stuckAll : ∀ (listed : Array Bool), listed.size = ops.size → Region.ready .any ops listed = [] → ∀ i, i < ops.size → listed.getD i false = true := by
    intro listed hls hr i
    induction i using Nat.strongRecOn with
    | _ i ih =>
      intro hi
      cases hl : listed.getD i false with
      | true => rfl
      | false =>
        exfalso
        have : i ∈ Region.ready .any ops listed := by
          rw [mem_ready]
          refine ⟨by simp [hls, hi] at hl ⊢; exact hl, ops[i], by simp [hi], fun e he hbi => ?_⟩
          have h1 := flow i ops[i] (by simp [hi])
          simp only [flowAt, Bool.and_eq_true] at h1
          have h2 := Array.all_eq_true'.1 h1.1.1 e he
          simp only [hbi, Bool.not_true, Bool.false_or] at h2
          have h3 := blt_true h2
          exact ih e.on h3 (by omega)
        rw [hr] at this
        cases this
  intro fuel
  induction fuel with
  | zero =>
    intro listed a c hD hlow hcnt
    have hall : ∀ i, i < ops.size → listed.getD i false = true := by
      have := cnt_full (listed := listed) (by rw [hD.lsize]; omega)
      rw [hD.lsize] at this
      exact this
    refine ⟨?_, fin listed a c hD hall⟩
    cases hr : Region.ready .any ops listed with
    | nil => rfl
    | cons i r =>
      exfalso
      have : i ∈ Region.ready .any ops listed := by rw [hr]; exact List.mem_cons_self
      obtain ⟨h1, o, ho, _⟩ := mem_ready.1 this
      have hi := (Array.getElem?_eq_some_iff.1 ho).1
      have h2 := hall i hi
      simp [hD.lsize, hi] at h1 h2
      rw [h1] at h2
      cases h2
  | succ fuel ih =>
    intro listed a c hD hlow hcnt
    refine ⟨fun hr => fin listed a c hD (stuckAll listed hD.lsize hr), fun i hi => ?_⟩
    obtain ⟨hun, o, ho, hall⟩ := mem_ready.1 hi
    have hilt := (Array.getElem?_eq_some_iff.1 ho).1
    have hunf : listed.getD i false = false := by simp [hD.lsize, hilt] at hun ⊢; exact hun
    have hpi : p ≤ i := by
      rcases Nat.lt_or_ge i p with h | h
      · rw [hlow i h hilt] at hunf; cases hunf
      · exact h
    have hwaits : ∀ j, Waits ops i j → listed.getD j false = true := fun j ⟨o', ho', e, he, hbi, hon⟩ => by
      rw [ho] at ho'
      cases ho'
      rw [← hon]
      exact hall e he hbi
    obtain ⟨o', orc0, b, r, orc1, ho', hstep, hb1, hr1⟩ := hT.step i (Nat.zero_le _) hilt
    rw [ho] at ho'
    cases ho'
    have reach : ∀ k l, k < ops.size → ((Region.before ops).getD k 0).testBit l = true → listed.getD k false = true → listed.getD l false = true := fun k l hk hb2 hl =>
      closed_reach hD.closed (before_reach ops k l hk hb2) (fun j hj => hD.closed _ _ hj hl)
    have reachI : ∀ l, ((Region.before ops).getD i 0).testBit l = true → listed.getD l false = true := fun l hb2 => closed_reach hD.closed (before_reach ops i l hilt hb2) hwaits
    -- the objects are those of the text's order, where they are looked at
    have hHi : stillB o.op = false → c.H = HH i := fun hst => by
      obtain ⟨q, hq1, hq2, hq3, hq4⟩ := hD.H
      rw [hq2]
      rcases Nat.lt_or_ge i q with hiq | hiq
      · have := same_heap hT (p := i) (q - i) (by omega) fun w ow h1 h2 how => by
          cases hw : wrB ow.op with
          | false => rfl
          | true =>
            have hwl := (Array.getElem?_eq_some_iff.1 how).1
            have h3 := hq3 w ow how hw (by omega)
            have hne : w ≠ i := fun e => by subst e; rw [hunf] at h3; cases h3
            rcases hcm how ho hw hst hne hpi with ⟨_, h5⟩ | ⟨h4, _⟩
            · rw [reach w i hwl h5 h3] at hunf; cases hunf
            · omega
        rw [show i + (q - i) = q by omega] at this
        exact this
      · have := same_heap hT (p := q) (i - q) (by omega) fun w ow h1 h2 how => by
          cases hw : wrB ow.op with
          | false => rfl
          | true =>
            have h3 := hq4 w ow how hw h1
            have hne : w ≠ i := by omega
            rcases hcm how ho hw hst hne hpi with ⟨h4, _⟩ | ⟨_, h5⟩
            · omega
            · rw [reachI w h5] at h3; cases h3
        rw [show q + (i - q) = i by omega] at this
        exact this.symm
    have hfa := flow i o ho
    simp only [flowAt, Bool.and_eq_true] at hfa
    obtain ⟨⟨hf1, hf2⟩, hf3⟩ := hfa
    -- what the operation looks at has its value of the text's order
    have same : ∀ t ∈ needs ops o, valL ops V (E 0) (fun i => listed.getD i false = true) t = find (E i) t := fun t ht => by
      rw [env_valW hnd hT i (by omega) t]
      refine valL_congr hnd fun k hk => ?_
      have h1 := List.all_eq_true.1 hf3 t ht
      obtain ⟨ok, hok, hdk⟩ := Option.bind_eq_some_iff.1 hk
      have hklt := (Array.getElem?_eq_some_iff.1 hok).1
      have h2 := List.all_eq_true.1 h1 (ok, k) (by rw [List.mem_zipIdx_iff_getElem?]; simpa using hok)
      simp only [hdk] at h2
      have e1 : Nat.beq t t = true := Nat.beq_refl t
      rw [e1] at h2
      simp only [Bool.not_true, Bool.false_or, Bool.or_eq_true, Bool.and_eq_true] at h2
      rcases h2 with (h2 | ⟨h2, h3⟩) | ⟨h2, h3⟩
      · obtain rfl := Nat.eq_of_beq_eq_true h2
        exact ⟨fun h => (by rw [hunf] at h; cases h), fun h => by omega⟩
      · exact ⟨fun _ => blt_true h2, fun _ => closed_reach hD.closed (before_reach ops i k hilt h3) hwaits⟩
      · have hik := blt_true h2
        refine ⟨fun h => ?_, fun h => by omega⟩
        have := closed_reach hD.closed (before_reach ops k i hklt h3) (fun j hj => hD.closed _ _ hj h)
        rw [hunf] at this
        cases this
    have hops : ∀ x ∈ o.op.operands.toList, GV (yielded ops a.tmps) c (a.eval x) (evD (E i) x) := fun x hx => by
      cases x with
      | tmp t =>
        show GV _ _ _ (find (E i) t)
        rw [← same t (by simp only [needs, List.mem_append, List.mem_filterMap]; exact .inl ⟨.tmp t, hx, rfl⟩)]
        exact hD.env t
      | const v => exact gv_of_tv (tv_dv c v)
      | global g => exact gv_of_tv tv_any
      | func f => exact gv_of_tv ⟨#[], rfl, rfl, fun i v d h1 _ => by simp at h1⟩
    have hgf : GuardFacts ops a c (E i) (gch ops 20 o.guard) := fun p hp t ht => by
      rw [← same t (by simp only [needs, List.mem_append, List.mem_filterMap]; exact .inr ⟨p, hp, ht⟩)]
      exact hD.env t
    -- the new state
    have newH : wrB o.op = false → ∀ c' : Ctx, c'.H = c.H → ∃ q, q ≤ ops.size ∧ c'.H = HH q ∧ (∀ w ow, ops[w]? = some ow → wrB ow.op = true → w < q → (listed.setIfInBounds i true).getD w false = true) ∧ (∀ w ow, ops[w]? = some ow → wrB ow.op = true → q ≤ w → (listed.setIfInBounds i true).getD w false = false) := fun hwo c' hc' => by
      obtain ⟨q, hq1, hq2, hq3, hq4⟩ := hD.H
      have hne : ∀ w ow, ops[w]? = some ow → wrB ow.op = true → i ≠ w := fun w ow how hw e => by subst e; rw [ho] at how; cases how; rw [hwo] at hw; cases hw
      exact ⟨q, hq1, hc'.trans hq2, fun w ow how hw hwq => by rw [getD_set_ne false (hne w ow how hw)]; exact hq3 w ow how hw hwq, fun w ow how hw hwq => by rw [getD_set_ne false (hne w ow how hw)]; exact hq4 w ow how hw hwq⟩
    have new : ∀ v c', Inv F c' → (∃ q, q ≤ ops.size ∧ c'.H = HH q ∧ (∀ w ow, ops[w]? = some ow → wrB ow.op = true → w < q → (listed.setIfInBounds i true).getD w false = true) ∧ (∀ w ow, ops[w]? = some ow → wrB ow.op = true → q ≤ w → (listed.setIfInBounds i true).getD w false = false)) →
        (∀ u e, TV c u e → TV c' u e) → (∀ d, V i = d → GV (yielded ops (a.put o.dst v).tmps) c' v d) → (∀ j w d, V i = .opt j w d → listed.getD j false = true) →
        wpAny P .any ops Q fuel (listed.setIfInBounds i true) (a.put o.dst v) c'.w := fun v c' hI' hHn htr hv hvo => by
      have hL : ∀ j, (listed.setIfInBounds i true).getD j false = true ↔ j = i ∨ listed.getD j false = true := fun j => by
        by_cases hji : j = i
        · subst hji; simp [hD.lsize, hilt]
        · rw [getD_set_ne false (Ne.symm hji)]; simp [hji]
      have hvalo : ∀ t, (∀ u, o.dst = some u → u ≠ t) → valL ops V (E 0) (fun j => (listed.setIfInBounds i true).getD j false = true) t = valL ops V (E 0) (fun j => listed.getD j false = true) t := fun t ht => by
        refine valL_congr hnd fun k hk => ?_
        show (listed.setIfInBounds i true).getD k false = true ↔ _
        rw [hL]
        refine ⟨fun h => ?_, .inr⟩
        rcases h with rfl | h
        · rw [ho] at hk
          exact absurd rfl (ht t hk)
        · exact h
      have hyj : ∀ j, listed.getD j false = true → yielded ops (a.put o.dst v).tmps j = yielded ops a.tmps j := fun j hj => yielded_put fun t ht e => by
        have := dsts_spec hnd (show (ops[i]?).bind (·.dst) = some t by rw [ho]; exact ht) e
        subst this
        rw [hunf] at hj
        cases hj
      have keep : ∀ t, GV (yielded ops (a.put o.dst v).tmps) c' (a.tmps.getD t undef) (valL ops V (E 0) (fun j => listed.getD j false = true) t) := fun t => by
        have h1 := gv_trans htr (hD.env t)
        cases hf : valL ops V (E 0) (fun j => listed.getD j false = true) t <;> rw [hf] at h1 <;> try exact h1
        rename_i j w d
        simp only [GV] at h1 ⊢
        rw [hyj j (hD.opt t j w d hf)]
        exact h1
      refine ih _ _ c' ⟨hHn, hI', fun t => ?_, by rw [size_put]; exact hD.size, by rw [defers_put]; exact hD.defers, fun t j w d hf => ?_, by simp [hD.lsize], fun p q hpq hp => ?_⟩ (fun j hj hj2 => (hL j).2 (.inr (hlow j hj hj2))) ?_
      · by_cases hdt : o.dst = some t
        · have hit : (ops[i]?).bind (·.dst) = some t := by rw [ho]; exact hdt
          rw [valL_some hnd hit ((hL i).2 (.inl rfl))]
          have htl : t < a.tmps.size := by
            obtain ⟨o2, ho2, hp⟩ := hT.put i (Nat.zero_le _) hilt
            rw [ho] at ho2
            cases ho2
            rw [hdt] at hp
            simp only [putE] at hp
            cases hlt : Nat.blt t nt with
            | false => simp [hlt] at hp
            | true => rw [hD.size]; exact blt_true hlt
          have e : (a.put o.dst v).tmps.getD t undef = v := by rw [hdt]; exact getD_put_same htl
          rw [e]
          exact hv _ rfl
        · rw [hvalo t (fun u hu e => hdt (by rw [hu, e])), getD_put hdt]
          exact keep t
      · rw [hL]
        right
        by_cases hdt : o.dst = some t
        · have hit : (ops[i]?).bind (·.dst) = some t := by rw [ho]; exact hdt
          rw [valL_some hnd hit ((hL i).2 (.inl rfl))] at hf
          exact hvo j w d hf
        · rw [hvalo t (fun u hu e => hdt (by rw [hu, e]))] at hf
          exact hD.opt t j w d hf
      · rw [hL] at hp ⊢
        right
        rcases hp with rfl | hp
        · exact hwaits q hpq
        · exact hD.closed p q hpq hp
      · rw [cnt_set (by rw [hD.lsize]; exact hilt) hunf]
        omega
    unfold wpOp
    simp only [ho]
    unfold stepDw at hstep
    cases hwr : wrB o.op with
    | true =>
      rw [hwr] at hstep
      simp only at hstep
      split at hstep <;> try cases hstep
      rename_i hgd hheap
      have hw : Region.wanted o (yielded ops a.tmps) = true := by simp [Region.wanted, hgd]
      simp only [hw, if_true]
      have hst := still_not_wr hwr
      have hρ : ∀ x ∈ o.op.operands.toList, TV c (a.eval x) (unwrap [] (evD (E i) x)) := fun x hx => unwrap_ok (a := a) (ops := ops) (by simp) (hops x hx)
      obtain ⟨v, c', hrun', hI', hH', htr, htv⟩ := heapD_ok (ρc := a.eval) hD.inv hρ (by rw [hHi hst]; exact hheap) (fun b hb' => hb b (hb1 b hb'))
      have hnew := new v c' hI' ⟨i + 1, by omega, hH', fun w ow how hw hwq => by
          rcases Nat.lt_or_ge w i with h1 | h1
          · rw [getD_set_ne false (by omega)]
            rcases hcm how ho hw hst (by omega) hpi with ⟨h4, _⟩ | ⟨_, h5⟩
            · omega
            · exact reachI w h5
          · have : w = i := by omega
            subst this
            simp [hD.lsize, hilt], fun w ow how hw hwq => by
          rw [getD_set_ne false (by omega)]
          cases hl : listed.getD w false with
          | false => rfl
          | true =>
            have hwl := (Array.getElem?_eq_some_iff.1 how).1
            rcases hcm how ho hw hst (by omega) hpi with ⟨_, h5⟩ | ⟨h4, _⟩
            · rw [reach w i hwl h5 hl] at hunf; cases hunf
            · omega⟩ (fun u e h => htr u e h) (fun d' hd' => by rw [← hd']; exact gv_of_tv htv) (fun j w d' h => by
          rw [h] at htv
          simp only [TV, AV] at htv
          exact absurd htv cv_not_opt)
      refine .inl ?_
      unfold Oper.wp
      rcases hrun' with h1 | ⟨h1, rfl⟩
      · rw [h1]; exact hnew
      · rw [h1]; exact hnew
    | false =>
    rw [hwr] at hstep
    simp only at hstep
    split at hstep
    case h_2 => cases hstep
    rename_i d0 b0 r0 o0 hstep0
    simp only [Option.some.injEq, Prod.mk.injEq] at hstep
    obtain ⟨hV0, _, rfl, rfl, rfl⟩ := hstep
    rw [hV0] at hstep0
    rename_i hstep
    have hstep := hstep0
    unfold stepDr at hstep
    split at hstep <;> try cases hstep
    rename_i g hg
    have hopc : ∀ {x}, opD P (HH i) ops (E i) (gch ops 20 o.guard) orc0 g o = x → opD P c.H ops (E i) (gch ops 20 o.guard) orc0 g o = x := fun {x} h => by
      cases hst : stillB o.op with
      | true => rw [opD_still (HH i) hst]; exact h
      | false => rw [hHi hst]; exact h
    split at hstep
    · rename_i d bs0 rq0 orc2 j want hop hgd
      cases hlt : Nat.blt j i with
      | false => simp [hlt] at hstep
      | true =>
        simp only [hlt, cond_true, Option.some.injEq, Prod.mk.injEq] at hstep
        obtain ⟨hV, rfl, rfl, rfl⟩ := hstep
        have hji := blt_true hlt
        have hyj : ∀ v, yielded ops (a.put o.dst v).tmps j = yielded ops a.tmps j := fun v => yielded_put fun t ht e => by
          have := dsts_spec hnd (show (ops[i]?).bind (·.dst) = some t by rw [ho]; exact ht) e
          omega
        have hjl : listed.getD j false = true := by
          rw [hgd] at hf2
          simp only at hf2
          obtain ⟨e, he, h1⟩ := Array.any_eq_true'.1 hf2
          simp only [Bool.and_eq_true] at h1
          rw [← Nat.eq_of_beq_eq_true h1.2]
          exact hall e he h1.1
        have hwant : Region.wanted o (yielded ops a.tmps) = (yielded ops a.tmps j == some want) := by simp [Region.wanted, hgd]
        have hvo : ∀ j' w d', V i = .opt j' w d' → listed.getD j' false = true := fun j' w d' h => by rw [← hV] at h; cases h; exact hjl
        cases hw : Region.wanted o (yielded ops a.tmps) with
        | true =>
          simp only [if_true]
          refine .inl (op_sound hD.inv hops hgf hg hw (hopc hop) (fun b hb' => hb b (hb1 b hb')) (fun q hq' => hq q (hr1 q hq')) fun v c' hI' haf => ?_)
          obtain ⟨hgo, _, htv⟩ := haf
          refine new v c' hI' (newH hwr c' hgo.H) (fun _ _ => hgo.tv) (fun d' hd' => ?_) hvo
          rw [← hd', ← hV]
          refine .inl ⟨?_, htv⟩
          rw [hyj]
          rw [hw] at hwant
          simpa using hwant.symm
        | false =>
          simp only [Bool.false_eq_true, if_false]
          refine new undef c hD.inv (newH hwr c rfl) (fun _ _ h => h) (fun d' hd' => ?_) hvo
          rw [← hd', ← hV]
          refine .inr ⟨?_, rfl⟩
          rw [hyj]
          rw [hw] at hwant
          simpa using hwant.symm
    · rename_i d bs0 rq0 orc2 hop hgd
      simp only [Option.some.injEq, Prod.mk.injEq] at hstep
      obtain ⟨hV, rfl, rfl, rfl⟩ := hstep
      have hw : Region.wanted o (yielded ops a.tmps) = true := by simp [Region.wanted, hgd]
      simp only [hw, if_true]
      refine .inl (op_sound hD.inv hops hgf hg hw (hopc hop) (fun b hb' => hb b (hb1 b hb')) (fun q hq' => hq q (hr1 q hq')) fun v c' hI' haf => ?_)
      obtain ⟨hgo, _, htv⟩ := haf
      refine new v c' hI' (newH hwr c' hgo.H) (fun _ _ => hgo.tv) (fun d' hd' => ?_) (fun j w d' h => ?_)
      · rw [← hd', ← hV]; exact gv_of_tv htv
      · rw [← hV] at h
        subst h
        simp only [TV, AV] at htv
        exact absurd htv cv_not_opt
    · cases hstep

end Nv
