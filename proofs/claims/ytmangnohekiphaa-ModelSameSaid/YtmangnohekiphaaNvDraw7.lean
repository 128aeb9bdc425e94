/- Regions that draw their order, with allocations that stand in no order with what comes before the stores: every order gives what the text's order gives. -/
import Derived.Test.YtmangnohekiphaaNvDraw6
namespace Nv
open Go Go.RowKit
theorem val1_congr {ops : Array Oper} (hnd : dstsB ops = true) {V : Nat → D} {p0 i : Nat} (hi : i ≤ p0) {env : List (Nat × D)} {L : Nat → Prop} {t : Nat} (h : ∀ k, (ops[k]?).bind (·.dst) = some t → (L k ↔ k < i)) :
    valL ops (V1 p0 V) env L t = valL ops V env (· < i) t := by
  by_cases hx : ∃ k, (ops[k]?).bind (·.dst) = some t ∧ k < i
  · obtain ⟨k, h1, h2⟩ := hx
    rw [valL_some hnd h1 ((h k h1).2 h2), valL_some hnd h1 (show k < i from h2)]
    simp [V1, show k < p0 by omega]
  · rw [valL_none (fun k hk hl => hx ⟨k, hk, (h k hk).1 hl⟩), valL_none (fun k hk hl => hx ⟨k, hk, hl⟩)]
theorem float_sound {P : Program} {F : Fr} {nt : Nat} {ops : Array Oper} {bs : List Bool} {rq : List Req} {E : Nat → List (Nat × D)} {HH : Nat → List Ob} {V : Nat → D} {H0 : List Ob} {p0 p : Nat} {zs : Nat → List D} (hfl : flowB ops = true)
    (hcm : ∀ {w i : Nat} {ow oi : Oper}, ops[w]? = some ow → ops[i]? = some oi → wrB ow.op = true → stillB oi.op = false → w ≠ i → p ≤ i → (i < w ∧ ((Region.before ops).getD w 0).testBit i = true) ∨ (w < i ∧ ((Region.before ops).getD i 0).testBit w = true))
    (hp : p0 ≤ p) (hpn : p ≤ ops.size) (hH0 : HH p0 = H0) (hHs : ∀ k, p0 ≤ k → k < p → HH (k + 1) = HH k ++ [.box (zs k)])
    (hV : ∀ k, p0 ≤ k → k < p → V k = .ref (H0.length + (k - p0)) 0) (hbl : H0.all (blO H0.length) = true) (hzs : ∀ k, p0 ≤ k → k < p → (zs k).all (blC H0.length) = true)
    (hnw : ∀ k o, ops[k]? = some o → k < p0 → wrB o.op = false) (hok : ∀ t, okT H0.length (find (E p0) t) = true)
    (hal : ∀ k, p0 ≤ k → k < p → ∃ o t, ops[k]? = some o ∧ o.op = .alloc t ∧ o.guard = none ∧ zeroD P t = some (zs k))
    (hbar : ∀ i j, p ≤ i → i < ops.size → j < p → ((Region.before ops).getD i 0).testBit j = true)
    (hT : TraceW P nt ops bs rq 0 ops.size E HH V) (hb : ∀ b ∈ bs, b = true) (hq : ∀ q ∈ rq, q.ok P) {Q : Exit → Act → World → Prop} (orc : List Res)
    (hQ : ∀ a c, RInv F nt ops ops.size ⟨E ops.size, HH ops.size, orc⟩ a c → Q .normal a c.w) :
    ∀ (fuel : Nat) (listed : Array Bool) (a : Act) (c : Ctx), FInv F nt ops H0 p0 p zs V (E 0) listed a c → cnt listed + fuel = ops.size → wpAny P .any ops Q fuel listed a c.w := by
  have hfl0 := hfl
  simp only [flowB, Bool.and_eq_true, List.all_eq_true] at hfl
  obtain ⟨hnd, hfl⟩ := hfl
  have flow : ∀ i o, ops[i]? = some o → flowAt ops (Region.before ops) i o = true := fun i o ho => by
    have hlt := (Array.getElem?_eq_some_iff.1 ho).1
    refine hfl (o, i) ?_
    rw [List.mem_zipIdx_iff_getElem?]
    simpa using ho
  -- nothing is ready: all are listed
  have stuckAll : ∀ (listed : Array Bool), listed.size = ops.size → Region.ready .any ops listed = [] → ∀ i, i < ops.size → listed.getD i false = true := by
    intro listed hls hr i
    induction i using Nat.strongRecOn with
    | _ i ih =>
      intro hi
      cases hl : listed.getD i false with
      | true => rfl
      | false =>
        exfalso
        have : i ∈ Region.ready .any ops listed := by
          rw [mem_ready]
          refine ⟨by simp [hls, hi] at hl ⊢; exact hl, ops[i], by simp [hi], fun e he hbi => ?_⟩
          have h1 := flow i ops[i] (by simp [hi])
          simp only [flowAt, Bool.and_eq_true] at h1
          have h2 := Array.all_eq_true'.1 h1.1.1 e he
          simp only [hbi, Bool.not_true, Bool.false_or] at h2
          have h3 := blt_true h2
          exact ih e.on h3 (by omega)
        rw [hr] at this
        cases this
  have done : ∀ (fuel : Nat) (listed : Array Bool) (a : Act) (c : Ctx), FInv F nt ops H0 p0 p zs V (E 0) listed a c → (∀ j, j < p → listed.getD j false = true) → cnt listed + fuel = ops.size → wpAny P .any ops Q fuel listed a c.w := fun fuel listed a c hD hall hcnt => by
    obtain ⟨c', hw, hD'⟩ := float_in hnd hp hpn hT hD hall hH0 hHs hV hbl hzs hnw hok
    rw [← hw]
    exact drawW_from hfl0 p hcm hT hb hq orc hQ fuel listed a c' hD' (fun j hj _ => hall j hj) hcnt
  intro fuel
  induction fuel with
  | zero =>
    intro listed a c hD hcnt
    refine done 0 listed a c hD (fun j hj => ?_) hcnt
    have := cnt_full (listed := listed) (by rw [hD.lsize]; omega)
    exact this j (by rw [hD.lsize]; omega)
  | succ fuel ih =>
    intro listed a c hD hcnt
    by_cases hlow : ∀ j, j < p → listed.getD j false = true
    · exact done _ listed a c hD hlow hcnt
    refine ⟨fun hr => absurd (fun j hj => stuckAll listed hD.lsize hr j (by omega)) hlow, fun i hi => ?_⟩
    obtain ⟨hun, o, ho, hall⟩ := mem_ready.1 hi
    have hilt := (Array.getElem?_eq_some_iff.1 ho).1
    have hunf : listed.getD i false = false := by simp [hD.lsize, hilt] at hun ⊢; exact hun
    have hwaits : ∀ j, Waits ops i j → listed.getD j false = true := fun j ⟨o', ho', e, he, hbi, hon⟩ => by
      rw [ho] at ho'
      cases ho'
      rw [← hon]
      exact hall e he hbi
    have hip : i < p := by
      rcases Nat.lt_or_ge i p with h | h
      · exact h
      · exact absurd (fun j hj => closed_reach hD.closed (before_reach ops i j hilt (hbar i j h hilt hj)) hwaits) hlow
    obtain ⟨o', orc0, b, r, orc1, ho', hstep, hb1, hr1⟩ := hT.step i (Nat.zero_le _) hilt
    rw [ho] at ho'
    cases ho'
    have new : ∀ v c', Inv F c' → (∃ X, c'.H = H0 ++ X ∧ X.all ngone = true) → (∀ u e, TV c u e → TV c' u e) → GV (yielded ops (a.put o.dst v).tmps) c' v (V1 p0 V i) → (∀ j w d, V1 p0 V i = .opt j w d → listed.getD j false = true) →
        (∃ fid : Nat → Nat, (∀ k, p0 ≤ k → k < p → (listed.setIfInBounds i true).getD k false = true → H0.length ≤ fid k ∧ c'.H[fid k]? = some (.box (zs k)) ∧ ∀ t, (ops[k]?).bind (·.dst) = some t → TV c' ((a.put o.dst v).tmps.getD t undef) (.ref (fid k) 0)) ∧
          ∀ k l, p0 ≤ k → k < p → p0 ≤ l → l < p → (listed.setIfInBounds i true).getD k false = true → (listed.setIfInBounds i true).getD l false = true → fid k = fid l → k = l) →
        wpAny P .any ops Q fuel (listed.setIfInBounds i true) (a.put o.dst v) c'.w := fun v c' hI' hHn htr hv hvo hfl' => by
      have hL : ∀ j, (listed.setIfInBounds i true).getD j false = true ↔ j = i ∨ listed.getD j false = true := fun j => by
        by_cases hji : j = i
        · subst hji; simp [hD.lsize, hilt]
        · rw [getD_set_ne false (Ne.symm hji)]; simp [hji]
      have hvalo : ∀ t, (∀ u, o.dst = some u → u ≠ t) → valL ops (V1 p0 V) (E 0) (fun j => (listed.setIfInBounds i true).getD j false = true) t = valL ops (V1 p0 V) (E 0) (fun j => listed.getD j false = true) t := fun t ht => by
        refine valL_congr hnd fun k hk => ?_
        show (listed.setIfInBounds i true).getD k false = true ↔ _
        rw [hL]
        refine ⟨fun h => ?_, .inr⟩
        rcases h with rfl | h
        · rw [ho] at hk
          exact absurd rfl (ht t hk)
        · exact h
      have hyj : ∀ j, listed.getD j false = true → yielded ops (a.put o.dst v).tmps j = yielded ops a.tmps j := fun j hj => yielded_put fun t ht e => by
        have := dsts_spec hnd (show (ops[i]?).bind (·.dst) = some t by rw [ho]; exact ht) e
        subst this
        rw [hunf] at hj
        cases hj
      have keep : ∀ t, GV (yielded ops (a.put o.dst v).tmps) c' (a.tmps.getD t undef) (valL ops (V1 p0 V) (E 0) (fun j => listed.getD j false = true) t) := fun t => by
        have h1 := gv_trans htr (hD.env t)
        cases hf : valL ops (V1 p0 V) (E 0) (fun j => listed.getD j false = true) t <;> rw [hf] at h1 <;> try exact h1
        rename_i j w d
        simp only [GV] at h1 ⊢
        rw [hyj j (hD.opt t j w d hf)]
        exact h1
      refine ih _ _ c' ⟨hHn, hI', fun t => ?_, hfl', by rw [size_put]; exact hD.size, by rw [defers_put]; exact hD.defers, fun t j w d hf => ?_, by simp [hD.lsize], fun p q hpq hp => ?_, fun j hj => by rw [getD_set_ne false (by omega)]; exact hD.low j hj⟩ ?_
      · by_cases hdt : o.dst = some t
        · have hit : (ops[i]?).bind (·.dst) = some t := by rw [ho]; exact hdt
          rw [valL_some hnd hit ((hL i).2 (.inl rfl))]
          have htl : t < a.tmps.size := by
            obtain ⟨o2, ho2, hp⟩ := hT.put i (Nat.zero_le _) hilt
            rw [ho] at ho2
            cases ho2
            rw [hdt] at hp
            simp only [putE] at hp
            cases hlt : Nat.blt t nt with
            | false => simp [hlt] at hp
            | true => rw [hD.size]; exact blt_true hlt
          have e : (a.put o.dst v).tmps.getD t undef = v := by rw [hdt]; exact getD_put_same htl
          rw [e]
          exact hv
        · rw [hvalo t (fun u hu e => hdt (by rw [hu, e])), getD_put hdt]
          exact keep t
      · rw [hL]
        right
        by_cases hdt : o.dst = some t
        · have hit : (ops[i]?).bind (·.dst) = some t := by rw [ho]; exact hdt
          rw [valL_some hnd hit ((hL i).2 (.inl rfl))] at hf
          exact hvo j w d hf
        · rw [hvalo t (fun u hu e => hdt (by rw [hu, e]))] at hf
          exact hD.opt t j w d hf
      · rw [hL] at hp ⊢
        right
        rcases hp with rfl | hp
        · exact hwaits q hpq
        · exact hD.closed p q hpq hp
      · rw [cnt_set (by rw [hD.lsize]; exact hilt) hunf]
        omega
    have fput : ∀ v c', (∀ u e, TV c u e → TV c' u e) → ∀ k t, k ≠ i → (ops[k]?).bind (·.dst) = some t → ∀ e, TV c (a.tmps.getD t undef) e → TV c' ((a.put o.dst v).tmps.getD t undef) e := fun v c' htr k t hki hk e h => by
      rw [getD_put (fun hdt => hki (dsts_spec hnd hk (by rw [ho]; exact hdt)))]
      exact htr _ _ h
    rcases Nat.lt_or_ge i p0 with hi0 | hi0
    · have hwr := hnw i o ho hi0
      have hHi : HH i = H0 := by
        have := same_heap hT (p := i) (p0 - i) (by omega) fun w ow h1 h2 how => hnw w ow how (by omega)
        rw [show i + (p0 - i) = p0 by omega] at this
        rw [← this, hH0]
      have e1 : V1 p0 V i = V i := by simp [V1, hi0]
      have newP : ∀ v c', Inv F c' → c'.H = c.H → (∀ u e, TV c u e → TV c' u e) → GV (yielded ops (a.put o.dst v).tmps) c' v (V i) → (∀ j w d, V i = .opt j w d → listed.getD j false = true) →
          wpAny P .any ops Q fuel (listed.setIfInBounds i true) (a.put o.dst v) c'.w := fun v c' hI' hH' htr hv hvo => by
        obtain ⟨fid, f1, f2⟩ := hD.fl
        refine new v c' hI' (by rw [hH']; exact hD.H) htr (by rw [e1]; exact hv) (by rw [e1]; exact hvo) ⟨fid, fun k h1 h2 h3 => ?_, fun k l h1 h2 h3 h4 h5 h6 h7 => ?_⟩
        · rw [getD_set_ne false (by omega)] at h3
          obtain ⟨g1, g2, g3⟩ := f1 k h1 h2 h3
          exact ⟨g1, by rw [hH']; exact g2, fun t ht => fput v c' htr k t (by omega) ht _ (g3 t ht)⟩
        · rw [getD_set_ne false (by omega)] at h5 h6
          exact f2 k l h1 h2 h3 h4 h5 h6 h7
      have reachI : ∀ l, ((Region.before ops).getD i 0).testBit l = true → listed.getD l false = true := fun l hb2 => closed_reach hD.closed (before_reach ops i l hilt hb2) hwaits
      have hfa := flow i o ho
      simp only [flowAt, Bool.and_eq_true] at hfa
      obtain ⟨⟨hf1, hf2⟩, hf3⟩ := hfa
      -- what the operation looks at has its value of the text's order
      have same : ∀ t ∈ needs ops o, valL ops (V1 p0 V) (E 0) (fun i => listed.getD i false = true) t = find (E i) t := fun t ht => by
        rw [env_valW hnd hT i (by omega) t]
        refine val1_congr hnd (Nat.le_of_lt hi0) fun k hk => ?_
        have h1 := List.all_eq_true.1 hf3 t ht
        obtain ⟨ok, hok, hdk⟩ := Option.bind_eq_some_iff.1 hk
        have hklt := (Array.getElem?_eq_some_iff.1 hok).1
        have h2 := List.all_eq_true.1 h1 (ok, k) (by rw [List.mem_zipIdx_iff_getElem?]; simpa using hok)
        simp only [hdk] at h2
        have e1 : Nat.beq t t = true := Nat.beq_refl t
        rw [e1] at h2
        simp only [Bool.not_true, Bool.false_or, Bool.or_eq_true, Bool.and_eq_true] at h2
        rcases h2 with (h2 | ⟨h2, h3⟩) | ⟨h2, h3⟩
        · obtain rfl := Nat.eq_of_beq_eq_true h2
          exact ⟨fun h => (by rw [hunf] at h; cases h), fun h => by omega⟩
        · exact ⟨fun _ => blt_true h2, fun _ => closed_reach hD.closed (before_reach ops i k hilt h3) hwaits⟩
        · have hik := blt_true h2
          refine ⟨fun h => ?_, fun h => by omega⟩
          have := closed_reach hD.closed (before_reach ops k i hklt h3) (fun j hj => hD.closed _ _ hj h)
          rw [hunf] at this
          cases this
      have hops : ∀ x ∈ o.op.operands.toList, GV (yielded ops a.tmps) c (a.eval x) (evD (E i) x) := fun x hx => by
        cases x with
        | tmp t =>
          show GV _ _ _ (find (E i) t)
          rw [← same t (by simp only [needs, List.mem_append, List.mem_filterMap]; exact .inl ⟨.tmp t, hx, rfl⟩)]
          exact hD.env t
        | const v => exact gv_of_tv (tv_dv c v)
        | global g => exact gv_of_tv tv_any
        | func f => exact gv_of_tv ⟨#[], rfl, rfl, fun i v d h1 _ => by simp at h1⟩
      have hgf : GuardFacts ops a c (E i) (gch ops 20 o.guard) := fun p hp t ht => by
        rw [← same t (by simp only [needs, List.mem_append, List.mem_filterMap]; exact .inr ⟨p, hp, ht⟩)]
        exact hD.env t
      unfold wpOp
      simp only [ho]
      unfold stepDw at hstep
      rw [hwr] at hstep
      simp only at hstep
      split at hstep
      case h_2 => cases hstep
      rename_i d0 b0 r0 o0 hstep0
      simp only [Option.some.injEq, Prod.mk.injEq] at hstep
      obtain ⟨hV0, _, rfl, rfl, rfl⟩ := hstep
      rw [hV0] at hstep0
      rename_i hstep
      have hstep := hstep0
      unfold stepDr at hstep
      split at hstep <;> try cases hstep
      rename_i g hg
      have hopc : ∀ {x}, opD P (HH i) ops (E i) (gch ops 20 o.guard) orc0 g o = some x → opD P c.H ops (E i) (gch ops 20 o.guard) orc0 g o = some x := fun {x} h => by
        obtain ⟨X, hX, _⟩ := hD.H
        rw [hX, ← hHi]
        exact opD_more X h
      split at hstep
      · rename_i d bs0 rq0 orc2 j want hop hgd
        cases hlt : Nat.blt j i with
        | false => simp [hlt] at hstep
        | true =>
          simp only [hlt, cond_true, Option.some.injEq, Prod.mk.injEq] at hstep
          obtain ⟨hV, rfl, rfl, rfl⟩ := hstep
          have hji := blt_true hlt
          have hyj : ∀ v, yielded ops (a.put o.dst v).tmps j = yielded ops a.tmps j := fun v => yielded_put fun t ht e => by
            have := dsts_spec hnd (show (ops[i]?).bind (·.dst) = some t by rw [ho]; exact ht) e
            omega
          have hjl : listed.getD j false = true := by
            rw [hgd] at hf2
            simp only at hf2
            obtain ⟨e, he, h1⟩ := Array.any_eq_true'.1 hf2
            simp only [Bool.and_eq_true] at h1
            rw [← Nat.eq_of_beq_eq_true h1.2]
            exact hall e he h1.1
          have hwant : Region.wanted o (yielded ops a.tmps) = (yielded ops a.tmps j == some want) := by simp [Region.wanted, hgd]
          have hvo : ∀ j' w d', V i = .opt j' w d' → listed.getD j' false = true := fun j' w d' h => by rw [← hV] at h; cases h; exact hjl
          cases hw : Region.wanted o (yielded ops a.tmps) with
          | true =>
            simp only [if_true]
            refine .inl (op_sound hD.inv hops hgf hg hw (hopc hop) (fun b hb' => hb b (hb1 b hb')) (fun q hq' => hq q (hr1 q hq')) fun v c' hI' haf => ?_)
            obtain ⟨hgo, _, htv⟩ := haf
            refine newP v c' hI' hgo.H (fun _ _ => hgo.tv) ?_ hvo
            rw [← hV]
            refine .inl ⟨?_, htv⟩
            rw [hyj]
            rw [hw] at hwant
            simpa using hwant.symm
          | false =>
            simp only [Bool.false_eq_true, if_false]
            refine newP undef c hD.inv rfl (fun _ _ h => h) ?_ hvo
            rw [← hV]
            refine .inr ⟨?_, rfl⟩
            rw [hyj]
            rw [hw] at hwant
            simpa using hwant.symm
      · rename_i d bs0 rq0 orc2 hop hgd
        simp only [Option.some.injEq, Prod.mk.injEq] at hstep
        obtain ⟨hV, rfl, rfl, rfl⟩ := hstep
        have hw : Region.wanted o (yielded ops a.tmps) = true := by simp [Region.wanted, hgd]
        simp only [hw, if_true]
        refine .inl (op_sound hD.inv hops hgf hg hw (hopc hop) (fun b hb' => hb b (hb1 b hb')) (fun q hq' => hq q (hr1 q hq')) fun v c' hI' haf => ?_)
        obtain ⟨hgo, _, htv⟩ := haf
        refine newP v c' hI' hgo.H (fun _ _ => hgo.tv) ?_ (fun j w d' h => ?_)
        · rw [← hV]; exact gv_of_tv htv
        · rw [← hV] at h
          subst h
          simp only [TV, AV] at htv
          exact absurd htv cv_not_opt
      · cases hstep
    · obtain ⟨o2, t2, ho2, hop2, hgd, hz⟩ := hal i hi0 hip
      rw [ho] at ho2
      cases ho2
      unfold wpOp
      simp only [ho]
      have hw : Region.wanted o (yielded ops a.tmps) = true := by simp [Region.wanted, hgd]
      simp only [hw, if_true]
      obtain ⟨v, c', hrun', hI', hH', htr, htv⟩ := heapD_ok (P := P) (ρc := a.eval) (ρd := fun _ => .any) hD.inv (o := o) (fun x hx => by rw [hop2] at hx; simp [Op.operands] at hx) (d := .ref c.H.length 0) (H' := c.H ++ [.box (zs i)]) (pid := none) (bs := []) (by rw [hop2]; simp [heapD, allocD, hz]) (by simp)
      have htr : ∀ u e, TV c u e → TV c' u e := fun u e h => htr u e h
      have e1 : V1 p0 V i = .any := by simp [V1, show ¬ i < p0 by omega]
      obtain ⟨X, hX, hXg⟩ := hD.H
      obtain ⟨fid, f1, f2⟩ := hD.fl
      have hset : ∀ k, k ≠ i → (listed.setIfInBounds i true).getD k false = true → listed.getD k false = true := fun k hk h => by rwa [getD_set_ne false (Ne.symm hk)] at h
      have hltf : ∀ k, p0 ≤ k → k < p → listed.getD k false = true → fid k < c.H.length := fun k h1 h2 h3 => (List.getElem?_eq_some_iff.1 (f1 k h1 h2 h3).2.1).1
      have hnew := new v c' hI' ⟨X ++ [.box (zs i)], by rw [hH', hX, List.append_assoc], by simp [hXg, ngone]⟩ htr (by rw [e1]; exact gv_of_tv tv_any) (fun j w d h => by rw [e1] at h; cases h)
        ⟨fun k => if k = i then c.H.length else fid k, fun k h1 h2 h3 => ?_, fun k l h1 h2 h3 h4 h5 h6 h7 => ?_⟩
      · refine .inl ?_
        unfold Oper.wp
        rcases hrun' with h1 | ⟨h1, rfl⟩
        · rw [h1]; exact hnew
        · rw [h1]; exact hnew
      · by_cases hki : k = i
        · subst hki
          simp only [if_true]
          refine ⟨by rw [hX]; simp, by rw [hH']; simp, fun t ht => ?_⟩
          rw [ho] at ht
          have htl : t < a.tmps.size := by
            obtain ⟨o3, ho3, hp3⟩ := hT.put k (Nat.zero_le _) hilt
            rw [ho] at ho3
            cases ho3
            have ht : o.dst = some t := ht
            rw [ht] at hp3
            simp only [putE] at hp3
            cases hlt : Nat.blt t nt with
            | false => simp [hlt] at hp3
            | true => rw [hD.size]; exact blt_true hlt
          have e : (a.put o.dst v).tmps.getD t undef = v := by
            have ht : o.dst = some t := ht
            rw [ht]; exact getD_put_same htl
          rw [e]
          exact htv
        · simp only [if_neg hki]
          obtain ⟨g1, g2, g3⟩ := f1 k h1 h2 (hset k hki h3)
          exact ⟨g1, by rw [hH']; exact get_more _ g2, fun t ht => fput v c' htr k t hki ht _ (g3 t ht)⟩
      · have h7 : (if k = i then c.H.length else fid k) = (if l = i then c.H.length else fid l) := h7
        by_cases hki : k = i <;> by_cases hli : l = i
        · omega
        · rw [if_pos hki, if_neg hli] at h7
          have := hltf l h3 h4 (hset l hli h6); omega
        · rw [if_neg hki, if_pos hli] at h7
          have := hltf k h1 h2 (hset k hki h5); omega
        · rw [if_neg hki, if_neg hli] at h7
          exact f2 k l h1 h2 h3 h4 (hset k hki h5) (hset l hli h6) h7
end Nv
