/- Drawn regions whose allocations and first stores float: every order gives the same. -/
import Derived.Test.YtmangnohekiphaaNvDraw9
namespace Nv
open Go Go.RowKit
structure GInv (F : Fr) (nt : Nat) (ops : Array Oper) (H0 : List Ob) (p0 p : Nat) (zs fs : Nat → List D) (V : Nat → D) (env0 : List (Nat × D)) (listed : Array Bool) (a : Act) (c : Ctx) : Prop where
  H : ∃ X, c.H = H0 ++ X ∧ X.all ngone = true
  inv : Inv F c
  env : ∀ t, GV (yielded ops a.tmps) c (a.tmps.getD t undef) (valL ops (V1 p0 V) env0 (fun i => listed.getD i false = true) t)
  fl : ∃ fid : Nat → Nat, (∀ k, p0 ≤ k → k < p → listed.getD k false = true → H0.length ≤ fid k ∧ c.H[fid k]? = some (.box (ct p0 p zs fs listed k)) ∧ ∀ t, (ops[k]?).bind (·.dst) = some t → TV c (a.tmps.getD t undef) (.ref (fid k) 0)) ∧
    ∀ k l, p0 ≤ k → k < p → p0 ≤ l → l < p → listed.getD k false = true → listed.getD l false = true → fid k = fid l → k = l
  size : a.tmps.size = nt
  defers : a.defers = []
  opt : ∀ t j w d, valL ops (V1 p0 V) env0 (fun i => listed.getD i false = true) t = .opt j w d → listed.getD j false = true
  lsize : listed.size = ops.size
  closed : ∀ i j, Waits ops i j → listed.getD i false = true → listed.getD j false = true

theorem floatS_sound {P : Program} {F : Fr} {nt : Nat} {ops : Array Oper} {bs : List Bool} {rq : List Req} {E : Nat → List (Nat × D)} {HH : Nat → List Ob} {V : Nat → D} {H0 : List Ob} {p0 p : Nat} {zs fs : Nat → List D} (hfl : flowB ops = true)
    (hp : p0 ≤ p) (hpn : p + (p - p0) = ops.size) (hH0 : HH 0 = H0)
    (hbl : H0.all (blO H0.length) = true) (hfs : ∀ k, p0 ≤ k → k < p → (fs k).all (blC H0.length) = true)
    (hnw : ∀ k o, ops[k]? = some o → k < p0 → wrB o.op = false) (hok : ∀ t, okT H0.length (find (E p0) t) = true)
    (hdst : ∀ (k t : Nat), (ops[k]?).bind (·.dst) = some t → t < nt)
    (hal : ∀ k, p0 ≤ k → k < p → ∃ o t, ops[k]? = some o ∧ o.op = .alloc t ∧ o.guard = none ∧ zeroD P t = some (zs k))
    (hst : ∀ k, p0 ≤ k → k < p → ∃ o t u x, ops[k + (p - p0)]? = some o ∧ o.op = .store t (.tmp u) x ∧ o.guard = none ∧ o.dst = none ∧ (ops[k]?).bind (·.dst) = some u ∧
      (∀ t', x = .tmp t' → ∀ l, (ops[l]?).bind (·.dst) = some t' → l < p0) ∧ ∀ (H : List Ob) id, H[id]? = some (.box (zs k)) → storeD P H t (.ref id 0) (adj P t (evD (E p0) x)) = some (H.set id (.box (fs k))))
    (hT : TraceW P nt ops bs rq 0 p0 E HH V) (hb : ∀ b ∈ bs, b = true) (hq : ∀ q ∈ rq, q.ok P) {Q : Exit → Act → World → Prop}
    (hQ : ∀ a c, Inv F c → c.H = H0 ++ (List.range (p - p0)).map (fun q => Ob.box (fs (p0 + q))) → a.tmps.size = nt → a.defers = [] →
      (∀ k, p0 ≤ k → k < p → ∀ t, (ops[k]?).bind (·.dst) = some t → TV c (a.tmps.getD t undef) (.ref (H0.length + (k - p0)) 0)) →
      (∀ t, (∀ k, p0 ≤ k → k < p → (ops[k]?).bind (·.dst) ≠ some t) → TV c (a.tmps.getD t undef) (find (E p0) t)) → Q .normal a c.w) :
    ∀ (fuel : Nat) (listed : Array Bool) (a : Act) (c : Ctx), GInv F nt ops H0 p0 p zs fs V (E 0) listed a c → cnt listed + fuel = ops.size → wpAny P .any ops Q fuel listed a c.w := by
  simp only [flowB, Bool.and_eq_true, List.all_eq_true] at hfl
  obtain ⟨hnd, hfl⟩ := hfl
  have flow : ∀ i o, ops[i]? = some o → flowAt ops (Region.before ops) i o = true := fun i o ho => by
    have hlt := (Array.getElem?_eq_some_iff.1 ho).1
    refine hfl (o, i) ?_
    rw [List.mem_zipIdx_iff_getElem?]
    simpa using ho
  -- nothing is ready: all are listed
  have stuckAll : ∀ (listed : Array Bool), listed.size = ops.size → Region.ready .any ops listed = [] → ∀ i, i < ops.size → listed.getD i false = true := by
    intro listed hls hr i
    induction i using Nat.strongRecOn with
    | _ i ih =>
      intro hi
      cases hl : listed.getD i false with
      | true => rfl
      | false =>
        exfalso
        have : i ∈ Region.ready .any ops listed := by
          rw [mem_ready]
          refine ⟨by simp [hls, hi] at hl ⊢; exact hl, ops[i], by simp [hi], fun e he hbi => ?_⟩
          have h1 := flow i ops[i] (by simp [hi])
          simp only [flowAt, Bool.and_eq_true] at h1
          have h2 := Array.all_eq_true'.1 h1.1.1 e he
          simp only [hbi, Bool.not_true, Bool.false_or] at h2
          have h3 := blt_true h2
          exact ih e.on h3 (by omega)
        rw [hr] at this
        cases this
  have nodst : ∀ l t, (ops[l]?).bind (·.dst) = some t → l < p := fun l t hl => by
    rcases Nat.lt_or_ge l p with h | h
    · exact h
    · exfalso
      have hlt : l < ops.size := by
        obtain ⟨o, ho, _⟩ := Option.bind_eq_some_iff.1 hl
        exact (Array.getElem?_eq_some_iff.1 ho).1
      obtain ⟨o, t2, u, x, ho, _, _, hdn, _⟩ := hst (l - (p - p0)) (by omega) (by omega)
      rw [show l - (p - p0) + (p - p0) = l by omega] at ho
      rw [ho] at hl
      simp [hdn] at hl
  have fin : ∀ (listed : Array Bool) a c, GInv F nt ops H0 p0 p zs fs V (E 0) listed a c → (∀ i, i < ops.size → listed.getD i false = true) → Q .normal a c.w := fun listed a c hD hall => by
    obtain ⟨fid, f1, f2⟩ := hD.fl
    have hct : ∀ k, p0 ≤ k → k < p → ct p0 p zs fs listed k = fs k := fun k h1 h2 => by simp only [ct, hall (k + (p - p0)) (by omega)]; rfl
    obtain ⟨d, hw, _, hI, hH, _, htv, _, hfl', _⟩ := floats_in2 (ops := ops) (p0 := p0) (p := p) (zs := fs) (V := fun k => .ref (H0.length + (k - p0)) 0) (listed := listed) (a := a) (HH := fun k => H0 ++ (List.range (k - p0)).map (fun q => Ob.box (fs (p0 + q)))) hD.H hD.inv (fun j hj => hall j (by omega)) (by simp) (fun k h1 h2 => by
        show H0 ++ _ = (H0 ++ _) ++ _
        rw [show k + 1 - p0 = (k - p0) + 1 by omega, List.range_succ, List.map_append, List.append_assoc]
        simp only [List.map_cons, List.map_nil]
        rw [show p0 + (k - p0) = k by omega]) (fun k h1 h2 => rfl) hbl hfs fid (fun k h1 h2 h3 => by have := f1 k h1 h2 h3; rw [hct k h1 h2] at this; exact this) f2 (p - p0) (by omega)
    rw [← hw]
    refine hQ a d hI (by rw [hH]; simp only [show p0 + (p - p0) - p0 = p - p0 by omega]) hD.size hD.defers (fun k h1 h2 t ht => hfl' k h1 (by omega) t ht) fun t ht => ?_
    have hv := hD.env t
    have hval : valL ops (V1 p0 V) (E 0) (fun i => listed.getD i false = true) t = find (E p0) t := by
      rw [env_valW hnd hT p0 (Nat.le_refl _) t]
      refine val1_congr hnd (Nat.le_refl _) fun k hk => ⟨fun _ => ?_, fun h => hall k (by omega)⟩
      rcases Nat.lt_or_ge k p0 with h | h
      · exact h
      · exact absurd hk (ht k h (nodst k t hk))
    rw [hval] at hv
    have h4 := hok t
    generalize find (E p0) t = e at hv h4
    cases e <;> simp only [okT] at h4 <;> first | (cases h4; done) | exact htv _ _ hv h4
  intro fuel
  induction fuel with
  | zero =>
    intro listed a c hD hcnt
    have hall : ∀ i, i < ops.size → listed.getD i false = true := by
      have := cnt_full (listed := listed) (by rw [hD.lsize]; omega)
      rw [hD.lsize] at this
      exact this
    refine ⟨?_, fin listed a c hD hall⟩
    cases hr : Region.ready .any ops listed with
    | nil => rfl
    | cons i r =>
      exfalso
      have : i ∈ Region.ready .any ops listed := by rw [hr]; exact List.mem_cons_self
      obtain ⟨h1, o, ho, _⟩ := mem_ready.1 this
      have hi := (Array.getElem?_eq_some_iff.1 ho).1
      have h2 := hall i hi
      simp [hD.lsize, hi] at h1 h2
      rw [h1] at h2
      cases h2
  | succ fuel ih =>
    intro listed a c hD hcnt
    refine ⟨fun hr => fin listed a c hD (stuckAll listed hD.lsize hr), fun i hi => ?_⟩
    obtain ⟨hun, o, ho, hall⟩ := mem_ready.1 hi
    have hilt := (Array.getElem?_eq_some_iff.1 ho).1
    have hunf : listed.getD i false = false := by simp [hD.lsize, hilt] at hun ⊢; exact hun
    have hwaits : ∀ j, Waits ops i j → listed.getD j false = true := fun j ⟨o', ho', e, he, hbi, hon⟩ => by
      rw [ho] at ho'
      cases ho'
      rw [← hon]
      exact hall e he hbi
    have reachI : ∀ l, ((Region.before ops).getD i 0).testBit l = true → listed.getD l false = true := fun l hb2 => closed_reach hD.closed (before_reach ops i l hilt hb2) hwaits
    -- a store stands behind its allocation
    have hsa : ∀ k, p0 ≤ k → k < p → listed.getD (k + (p - p0)) false = true → listed.getD k false = true := fun k h1 h2 hl => by
      obtain ⟨o2, t2, u, x, ho2, hop2, _, _, hdu, _⟩ := hst k h1 h2
      have hf := flow _ _ ho2
      simp only [flowAt, Bool.and_eq_true] at hf
      have h3 := List.all_eq_true.1 hf.2 u (by simp only [needs, List.mem_append, List.mem_filterMap]; exact .inl ⟨.tmp u, by rw [hop2]; simp [Op.operands], rfl⟩)
      obtain ⟨ok, hok1, hdk⟩ := Option.bind_eq_some_iff.1 hdu
      have h4 := List.all_eq_true.1 h3 (ok, k) (by rw [List.mem_zipIdx_iff_getElem?]; simpa using hok1)
      simp only [hdk, Nat.beq_refl, Bool.not_true, Bool.false_or, Bool.or_eq_true, Bool.and_eq_true] at h4
      rcases h4 with (h4 | ⟨_, h5⟩) | ⟨h4, _⟩
      · have := Nat.eq_of_beq_eq_true h4; omega
      · exact closed_reach hD.closed (before_reach ops _ k (by omega) h5) (fun j hj => hD.closed _ _ hj hl)
      · have := blt_true h4; omega
    have new : ∀ v c', Inv F c' → (∃ X, c'.H = H0 ++ X ∧ X.all ngone = true) → (∀ u e, TV c u e → TV c' u e) → GV (yielded ops (a.put o.dst v).tmps) c' v (V1 p0 V i) → (∀ j w d, V1 p0 V i = .opt j w d → listed.getD j false = true) →
        (∃ fid : Nat → Nat, (∀ k, p0 ≤ k → k < p → (listed.setIfInBounds i true).getD k false = true → H0.length ≤ fid k ∧ c'.H[fid k]? = some (.box (ct p0 p zs fs (listed.setIfInBounds i true) k)) ∧ ∀ t, (ops[k]?).bind (·.dst) = some t → TV c' ((a.put o.dst v).tmps.getD t undef) (.ref (fid k) 0)) ∧
          ∀ k l, p0 ≤ k → k < p → p0 ≤ l → l < p → (listed.setIfInBounds i true).getD k false = true → (listed.setIfInBounds i true).getD l false = true → fid k = fid l → k = l) →
        wpAny P .any ops Q fuel (listed.setIfInBounds i true) (a.put o.dst v) c'.w := fun v c' hI' hHn htr hv hvo hfl' => by
      have hL : ∀ j, (listed.setIfInBounds i true).getD j false = true ↔ j = i ∨ listed.getD j false = true := fun j => by
        by_cases hji : j = i
        · subst hji; simp [hD.lsize, hilt]
        · rw [getD_set_ne false (Ne.symm hji)]; simp [hji]
      have hvalo : ∀ t, (∀ u, o.dst = some u → u ≠ t) → valL ops (V1 p0 V) (E 0) (fun j => (listed.setIfInBounds i true).getD j false = true) t = valL ops (V1 p0 V) (E 0) (fun j => listed.getD j false = true) t := fun t ht => by
        refine valL_congr hnd fun k hk => ?_
        show (listed.setIfInBounds i true).getD k false = true ↔ _
        rw [hL]
        refine ⟨fun h => ?_, .inr⟩
        rcases h with rfl | h
        · rw [ho] at hk
          exact absurd rfl (ht t hk)
        · exact h
      have hyj : ∀ j, listed.getD j false = true → yielded ops (a.put o.dst v).tmps j = yielded ops a.tmps j := fun j hj => yielded_put fun t ht e => by
        have := dsts_spec hnd (show (ops[i]?).bind (·.dst) = some t by rw [ho]; exact ht) e
        subst this
        rw [hunf] at hj
        cases hj
      have keep : ∀ t, GV (yielded ops (a.put o.dst v).tmps) c' (a.tmps.getD t undef) (valL ops (V1 p0 V) (E 0) (fun j => listed.getD j false = true) t) := fun t => by
        have h1 := gv_trans htr (hD.env t)
        cases hf : valL ops (V1 p0 V) (E 0) (fun j => listed.getD j false = true) t <;> rw [hf] at h1 <;> try exact h1
        rename_i j w d
        simp only [GV] at h1 ⊢
        rw [hyj j (hD.opt t j w d hf)]
        exact h1
      refine ih _ _ c' ⟨hHn, hI', fun t => ?_, hfl', by rw [size_put]; exact hD.size, by rw [defers_put]; exact hD.defers, fun t j w d hf => ?_, by simp [hD.lsize], fun p q hpq hp => ?_⟩ ?_
      · by_cases hdt : o.dst = some t
        · have hit : (ops[i]?).bind (·.dst) = some t := by rw [ho]; exact hdt
          rw [valL_some hnd hit ((hL i).2 (.inl rfl))]
          have htl : t < a.tmps.size := by rw [hD.size]; exact hdst i t hit
          have e : (a.put o.dst v).tmps.getD t undef = v := by rw [hdt]; exact getD_put_same htl
          rw [e]
          exact hv
        · rw [hvalo t (fun u hu e => hdt (by rw [hu, e])), getD_put hdt]
          exact keep t
      · rw [hL]
        right
        by_cases hdt : o.dst = some t
        · have hit : (ops[i]?).bind (·.dst) = some t := by rw [ho]; exact hdt
          rw [valL_some hnd hit ((hL i).2 (.inl rfl))] at hf
          exact hvo j w d hf
        · rw [hvalo t (fun u hu e => hdt (by rw [hu, e]))] at hf
          exact hD.opt t j w d hf
      · rw [hL] at hp ⊢
        right
        rcases hp with rfl | hp
        · exact hwaits q hpq
        · exact hD.closed p q hpq hp
      · rw [cnt_set (by rw [hD.lsize]; exact hilt) hunf]
        omega
    have fput : ∀ v c', (∀ u e, TV c u e → TV c' u e) → ∀ k t, k ≠ i → (ops[k]?).bind (·.dst) = some t → ∀ e, TV c (a.tmps.getD t undef) e → TV c' ((a.put o.dst v).tmps.getD t undef) e := fun v c' htr k t hki hk e h => by
      rw [getD_put (fun hdt => hki (dsts_spec hnd hk (by rw [ho]; exact hdt)))]
      exact htr _ _ h
    rcases Nat.lt_or_ge i p0 with hi0 | hi0
    · have hwr := hnw i o ho hi0
      obtain ⟨o', orc0, b, r, orc1, ho', hstep, hb1, hr1⟩ := hT.step i (Nat.zero_le _) hi0
      rw [ho] at ho'
      cases ho'
      have hHi : HH i = H0 := by
        have := same_heap hT (p := 0) i (by omega) fun w ow h1 h2 how => hnw w ow how (by omega)
        rw [Nat.zero_add] at this
        rw [this, hH0]
      have e1 : V1 p0 V i = V i := by simp [V1, hi0]
      have newP : ∀ v c', Inv F c' → c'.H = c.H → (∀ u e, TV c u e → TV c' u e) → GV (yielded ops (a.put o.dst v).tmps) c' v (V i) → (∀ j w d, V i = .opt j w d → listed.getD j false = true) →
          wpAny P .any ops Q fuel (listed.setIfInBounds i true) (a.put o.dst v) c'.w := fun v c' hI' hH' htr hv hvo => by
        obtain ⟨fid, f1, f2⟩ := hD.fl
        refine new v c' hI' (by rw [hH']; exact hD.H) htr (by rw [e1]; exact hv) (by rw [e1]; exact hvo) ⟨fid, fun k h1 h2 h3 => ?_, fun k l h1 h2 h3 h4 h5 h6 h7 => ?_⟩
        · rw [getD_set_ne false (by omega)] at h3
          obtain ⟨g1, g2, g3⟩ := f1 k h1 h2 h3
          exact ⟨g1, by rw [hH', ct_ne (by omega)]; exact g2, fun t ht => fput v c' htr k t (by omega) ht _ (g3 t ht)⟩
        · rw [getD_set_ne false (by omega)] at h5 h6
          exact f2 k l h1 h2 h3 h4 h5 h6 h7
      have reachI : ∀ l, ((Region.before ops).getD i 0).testBit l = true → listed.getD l false = true := fun l hb2 => closed_reach hD.closed (before_reach ops i l hilt hb2) hwaits
      have hfa := flow i o ho
      simp only [flowAt, Bool.and_eq_true] at hfa
      obtain ⟨⟨hf1, hf2⟩, hf3⟩ := hfa
      -- what the operation looks at has its value of the text's order
      have same : ∀ t ∈ needs ops o, valL ops (V1 p0 V) (E 0) (fun i => listed.getD i false = true) t = find (E i) t := fun t ht => by
        rw [env_valW hnd hT i (by omega) t]
        refine val1_congr hnd (Nat.le_of_lt hi0) fun k hk => ?_
        have h1 := List.all_eq_true.1 hf3 t ht
        obtain ⟨ok, hok, hdk⟩ := Option.bind_eq_some_iff.1 hk
        have hklt := (Array.getElem?_eq_some_iff.1 hok).1
        have h2 := List.all_eq_true.1 h1 (ok, k) (by rw [List.mem_zipIdx_iff_getElem?]; simpa using hok)
        simp only [hdk] at h2
        have e1 : Nat.beq t t = true := Nat.beq_refl t
        rw [e1] at h2
        simp only [Bool.not_true, Bool.false_or, Bool.or_eq_true, Bool.and_eq_true] at h2
        rcases h2 with (h2 | ⟨h2, h3⟩) | ⟨h2, h3⟩
        · obtain rfl := Nat.eq_of_beq_eq_true h2
          exact ⟨fun h => (by rw [hunf] at h; cases h), fun h => by omega⟩
        · exact ⟨fun _ => blt_true h2, fun _ => closed_reach hD.closed (before_reach ops i k hilt h3) hwaits⟩
        · have hik := blt_true h2
          refine ⟨fun h => ?_, fun h => by omega⟩
          have := closed_reach hD.closed (before_reach ops k i hklt h3) (fun j hj => hD.closed _ _ hj h)
          rw [hunf] at this
          cases this
      have hops : ∀ x ∈ o.op.operands.toList, GV (yielded ops a.tmps) c (a.eval x) (evD (E i) x) := fun x hx => by
        cases x with
        | tmp t =>
          show GV _ _ _ (find (E i) t)
          rw [← same t (by simp only [needs, List.mem_append, List.mem_filterMap]; exact .inl ⟨.tmp t, hx, rfl⟩)]
          exact hD.env t
        | const v => exact gv_of_tv (tv_dv c v)
        | global g => exact gv_of_tv tv_any
        | func f => exact gv_of_tv ⟨#[], rfl, rfl, fun i v d h1 _ => by simp at h1⟩
      have hgf : GuardFacts ops a c (E i) (gch ops 20 o.guard) := fun p hp t ht => by
        rw [← same t (by simp only [needs, List.mem_append, List.mem_filterMap]; exact .inr ⟨p, hp, ht⟩)]
        exact hD.env t
      unfold wpOp
      simp only [ho]
      unfold stepDw at hstep
      rw [hwr] at hstep
      simp only at hstep
      split at hstep
      case h_2 => cases hstep
      rename_i d0 b0 r0 o0 hstep0
      simp only [Option.some.injEq, Prod.mk.injEq] at hstep
      obtain ⟨hV0, _, rfl, rfl, rfl⟩ := hstep
      rw [hV0] at hstep0
      rename_i hstep
      have hstep := hstep0
      unfold stepDr at hstep
      split at hstep <;> try cases hstep
      rename_i g hg
      have hopc : ∀ {x}, opD P (HH i) ops (E i) (gch ops 20 o.guard) orc0 g o = some x → opD P c.H ops (E i) (gch ops 20 o.guard) orc0 g o = some x := fun {x} h => by
        obtain ⟨X, hX, _⟩ := hD.H
        rw [hX, ← hHi]
        exact opD_more X h
      split at hstep
      · rename_i d bs0 rq0 orc2 j want hop hgd
        cases hlt : Nat.blt j i with
        | false => simp [hlt] at hstep
        | true =>
          simp only [hlt, cond_true, Option.some.injEq, Prod.mk.injEq] at hstep
          obtain ⟨hV, rfl, rfl, rfl⟩ := hstep
          have hji := blt_true hlt
          have hyj : ∀ v, yielded ops (a.put o.dst v).tmps j = yielded ops a.tmps j := fun v => yielded_put fun t ht e => by
            have := dsts_spec hnd (show (ops[i]?).bind (·.dst) = some t by rw [ho]; exact ht) e
            omega
          have hjl : listed.getD j false = true := by
            rw [hgd] at hf2
            simp only at hf2
            obtain ⟨e, he, h1⟩ := Array.any_eq_true'.1 hf2
            simp only [Bool.and_eq_true] at h1
            rw [← Nat.eq_of_beq_eq_true h1.2]
            exact hall e he h1.1
          have hwant : Region.wanted o (yielded ops a.tmps) = (yielded ops a.tmps j == some want) := by simp [Region.wanted, hgd]
          have hvo : ∀ j' w d', V i = .opt j' w d' → listed.getD j' false = true := fun j' w d' h => by rw [← hV] at h; cases h; exact hjl
          cases hw : Region.wanted o (yielded ops a.tmps) with
          | true =>
            simp only [if_true]
            refine .inl (op_sound hD.inv hops hgf hg hw (hopc hop) (fun b hb' => hb b (hb1 b hb')) (fun q hq' => hq q (hr1 q hq')) fun v c' hI' haf => ?_)
            obtain ⟨hgo, _, htv⟩ := haf
            refine newP v c' hI' hgo.H (fun _ _ => hgo.tv) ?_ hvo
            rw [← hV]
            refine .inl ⟨?_, htv⟩
            rw [hyj]
            rw [hw] at hwant
            simpa using hwant.symm
          | false =>
            simp only [Bool.false_eq_true, if_false]
            refine newP undef c hD.inv rfl (fun _ _ h => h) ?_ hvo
            rw [← hV]
            refine .inr ⟨?_, rfl⟩
            rw [hyj]
            rw [hw] at hwant
            simpa using hwant.symm
      · rename_i d bs0 rq0 orc2 hop hgd
        simp only [Option.some.injEq, Prod.mk.injEq] at hstep
        obtain ⟨hV, rfl, rfl, rfl⟩ := hstep
        have hw : Region.wanted o (yielded ops a.tmps) = true := by simp [Region.wanted, hgd]
        simp only [hw, if_true]
        refine .inl (op_sound hD.inv hops hgf hg hw (hopc hop) (fun b hb' => hb b (hb1 b hb')) (fun q hq' => hq q (hr1 q hq')) fun v c' hI' haf => ?_)
        obtain ⟨hgo, _, htv⟩ := haf
        refine newP v c' hI' hgo.H (fun _ _ => hgo.tv) ?_ (fun j w d' h => ?_)
        · rw [← hV]; exact gv_of_tv htv
        · rw [← hV] at h
          subst h
          simp only [TV, AV] at htv
          exact absurd htv cv_not_opt
      · cases hstep
    rcases Nat.lt_or_ge i p with hip | hip
    · obtain ⟨o2, t2, ho2, hop2, hgd, hz⟩ := hal i hi0 hip
      rw [ho] at ho2
      cases ho2
      unfold wpOp
      simp only [ho]
      have hw : Region.wanted o (yielded ops a.tmps) = true := by simp [Region.wanted, hgd]
      simp only [hw, if_true]
      obtain ⟨v, c', hrun', hI', hH', htr, htv⟩ := heapD_ok (P := P) (ρc := a.eval) (ρd := fun _ => .any) hD.inv (o := o) (fun x hx => by rw [hop2] at hx; simp [Op.operands] at hx) (d := .ref c.H.length 0) (H' := c.H ++ [.box (zs i)]) (pid := none) (bs := []) (by rw [hop2]; simp [heapD, allocD, hz]) (by simp)
      have htr : ∀ u e, TV c u e → TV c' u e := fun u e h => htr u e h
      have e1 : V1 p0 V i = .any := by simp [V1, show ¬ i < p0 by omega]
      obtain ⟨X, hX, hXg⟩ := hD.H
      obtain ⟨fid, f1, f2⟩ := hD.fl
      have hset : ∀ k, k ≠ i → (listed.setIfInBounds i true).getD k false = true → listed.getD k false = true := fun k hk h => by rwa [getD_set_ne false (Ne.symm hk)] at h
      have hltf : ∀ k, p0 ≤ k → k < p → listed.getD k false = true → fid k < c.H.length := fun k h1 h2 h3 => (List.getElem?_eq_some_iff.1 (f1 k h1 h2 h3).2.1).1
      have hnew := new v c' hI' ⟨X ++ [.box (zs i)], by rw [hH', hX, List.append_assoc], by simp [hXg, ngone]⟩ htr (by rw [e1]; exact gv_of_tv tv_any) (fun j w d h => by rw [e1] at h; cases h)
        ⟨fun k => if k = i then c.H.length else fid k, fun k h1 h2 h3 => ?_, fun k l h1 h2 h3 h4 h5 h6 h7 => ?_⟩
      · refine .inl ?_
        unfold Oper.wp
        rcases hrun' with h1 | ⟨h1, rfl⟩
        · rw [h1]; exact hnew
        · rw [h1]; exact hnew
      · by_cases hki : k = i
        · subst hki
          simp only [if_true]
          refine ⟨by rw [hX]; simp, ?_, fun t ht => ?_⟩
          · have hun2 : listed.getD (k + (p - p0)) false = false := by
              cases hl : listed.getD (k + (p - p0)) false with
              | false => rfl
              | true => rw [hsa k h1 h2 hl] at hunf; cases hunf
            rw [hH']; simp [ct, getD_set_ne false (show k ≠ k + (p - p0) by omega), hun2]
          rw [ho] at ht
          have htl : t < a.tmps.size := by rw [hD.size]; exact hdst k t (by rw [ho]; exact ht)
          have e : (a.put o.dst v).tmps.getD t undef = v := by
            have ht : o.dst = some t := ht
            rw [ht]; exact getD_put_same htl
          rw [e]
          exact htv
        · simp only [if_neg hki]
          obtain ⟨g1, g2, g3⟩ := f1 k h1 h2 (hset k hki h3)
          exact ⟨g1, by rw [hH', ct_ne (by omega)]; exact get_more _ g2, fun t ht => fput v c' htr k t hki ht _ (g3 t ht)⟩
      · have h7 : (if k = i then c.H.length else fid k) = (if l = i then c.H.length else fid l) := h7
        by_cases hki : k = i <;> by_cases hli : l = i
        · omega
        · rw [if_pos hki, if_neg hli] at h7
          have := hltf l h3 h4 (hset l hli h6); omega
        · rw [if_neg hki, if_pos hli] at h7
          have := hltf k h1 h2 (hset k hki h5); omega
        · rw [if_neg hki, if_neg hli] at h7
          exact f2 k l h1 h2 h3 h4 (hset k hki h5) (hset l hli h6) h7
    · -- a store into a floating variable
      have hm : p - p0 + p = ops.size := by omega
      have hk1 : p0 ≤ i - (p - p0) := by omega
      have hk2 : i - (p - p0) < p := by omega
      obtain ⟨o2, t2, u, x, ho2, hop2, hgd, hdn, hdu, hx, hsto⟩ := hst (i - (p - p0)) hk1 hk2
      rw [show i - (p - p0) + (p - p0) = i by omega, ho] at ho2
      cases ho2
      generalize hkk : i - (p - p0) = k at *
      have hik : i = k + (p - p0) := by omega
      have need : ∀ t', t' ∈ needs ops o → ∀ l, (ops[l]?).bind (·.dst) = some t' → l < i → listed.getD l false = true := fun t' ht' l hl hli => by
        have hf := flow _ _ ho
        simp only [flowAt, Bool.and_eq_true] at hf
        have h3 := List.all_eq_true.1 hf.2 t' ht'
        obtain ⟨ok, hok1, hdk⟩ := Option.bind_eq_some_iff.1 hl
        have h4 := List.all_eq_true.1 h3 (ok, l) (by rw [List.mem_zipIdx_iff_getElem?]; simpa using hok1)
        simp only [hdk, Nat.beq_refl, Bool.not_true, Bool.false_or, Bool.or_eq_true, Bool.and_eq_true] at h4
        rcases h4 with (h4 | ⟨_, h5⟩) | ⟨h4, _⟩
        · have := Nat.eq_of_beq_eq_true h4; omega
        · exact reachI l h5
        · have := blt_true h4; omega
      have hkl : listed.getD k false = true := need u (by simp only [needs, List.mem_append, List.mem_filterMap]; exact .inl ⟨.tmp u, by rw [hop2]; simp [Op.operands], rfl⟩) k hdu (by omega)
      have hxv : TV c (a.eval x) (evD (E p0) x) := by
        cases x with
        | tmp t' =>
          show TV c _ (find (E p0) t')
          have hv := hD.env t'
          have hval : valL ops (V1 p0 V) (E 0) (fun i => listed.getD i false = true) t' = find (E p0) t' := by
            rw [env_valW hnd hT p0 (Nat.le_refl _) t']
            refine val1_congr hnd (Nat.le_refl _) fun l hl => ⟨fun _ => hx t' rfl l hl, fun h => need t' (by simp only [needs, List.mem_append, List.mem_filterMap]; exact .inl ⟨.tmp t', by rw [hop2]; simp [Op.operands], rfl⟩) l hl (by omega)⟩
          rw [hval] at hv
          have h4 := hok t'
          show TV c (a.tmps.getD t' undef) _
          generalize find (E p0) t' = e at hv h4
          cases e <;> simp only [okT] at h4 <;> first | (cases h4; done) | exact hv
        | const v => exact tv_dv c v
        | global g => exact tv_any
        | func f => exact ⟨#[], rfl, rfl, fun i v d h1 _ => by simp at h1⟩
      obtain ⟨fid, f1, f2⟩ := hD.fl
      obtain ⟨g1, g2, g3⟩ := f1 k hk1 hk2 hkl
      have hct : ct p0 p zs fs listed k = zs k := by simp only [ct, ← hik, hunf]; rfl
      rw [hct] at g2
      unfold wpOp
      simp only [ho]
      have hw : Region.wanted o (yielded ops a.tmps) = true := by simp [Region.wanted, hgd]
      simp only [hw, if_true]
      have hA : ∀ y ∈ o.op.operands.toList, TV c (a.eval y) ((fun y => bif isTmp u y then .ref (fid k) 0 else evD (E p0) y) y) := fun y hy => by
        show TV c (a.eval y) (bif isTmp u y then .ref (fid k) 0 else evD (E p0) y)
        rw [hop2] at hy
        simp only [Op.operands] at hy
        cases hb2 : isTmp u y with
        | true =>
          obtain rfl := isTmp_eq hb2
          simp only [cond_true]
          exact g3 u hdu
        | false =>
          simp only [cond_false]
          have hyx : y = x := by
            simp at hy
            rcases hy with rfl | rfl
            · simp [isTmp, Nat.beq_refl] at hb2
            · rfl
          subst hyx
          exact hxv
      have hB : heapD P c.H (fun y => bif isTmp u y then .ref (fid k) 0 else evD (E p0) y) o.op = some (.any, c.H.set (fid k) (.box (fs k)), none, []) := by
        rw [hop2]
        have hxu : isTmp u x = false := by
          cases h : isTmp u x with
          | false => rfl
          | true => have := hx u (isTmp_eq h) k hdu; omega
        have hu : isTmp u (.tmp u) = true := by simp [isTmp, Nat.beq_refl]
        simp only [heapD, hu, hxu, cond_true, cond_false]
        rw [hsto _ _ g2]
        rfl
      obtain ⟨v, c', hrun', hI', hH', htr, htv⟩ := heapD_ok (P := P) (ρc := a.eval) hD.inv (o := o) hA hB (by simp)
      have htr : ∀ y e, TV c y e → TV c' y e := fun y e h => htr y e h
      have e1 : V1 p0 V i = .any := by simp [V1, show ¬ i < p0 by omega]
      obtain ⟨X, hX, hXg⟩ := hD.H
      have hset : ∀ j, j ≠ i → (listed.setIfInBounds i true).getD j false = true → listed.getD j false = true := fun j hj h => by rwa [getD_set_ne false (Ne.symm hj)] at h
      have hnew := new v c' hI' ⟨X.set (fid k - H0.length) (.box (fs k)), by rw [hH', hX, List.set_append_right _ _ g1], all_set hXg rfl⟩ htr (by rw [e1]; exact gv_of_tv tv_any) (fun j w d h => by rw [e1] at h; cases h)
        ⟨fid, fun j h1 h2 h3 => ?_, fun j l h1 h2 h3 h4 h5 h6 h7 => f2 j l h1 h2 h3 h4 (hset j (by omega) h5) (hset l (by omega) h6) h7⟩
      · refine .inl ?_
        unfold Oper.wp
        rcases hrun' with h1 | ⟨h1, rfl⟩
        · rw [h1]; exact hnew
        · rw [h1]; exact hnew
      · have h3' := hset j (by omega) h3
        obtain ⟨q1, q2, q3⟩ := f1 j h1 h2 h3'
        refine ⟨q1, ?_, fun t ht => fput v c' htr j t (by omega) ht _ (q3 t ht)⟩
        rw [hH']
        by_cases hjk : j = k
        · subst hjk
          have hlt := (List.getElem?_eq_some_iff.1 g2).1
          have hc2 : ct p0 p zs fs (listed.setIfInBounds i true) j = fs j := by
            simp only [ct, ← hik]
            rw [show (listed.setIfInBounds i true).getD i false = true by simp [hD.lsize, hilt]]; rfl
          rw [hc2, List.getElem?_set_self hlt]
        · have hne : fid j ≠ fid k := fun e => hjk (f2 j k h1 h2 hk1 hk2 h3' hkl e)
          rw [List.getElem?_set_ne (Ne.symm hne), ct_ne (by omega)]
          exact q2
end Nv
