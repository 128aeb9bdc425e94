/- Part of the proof of RouteMergeAgain: the library of walks. No condition. -/
import Derived.Test.YtkonldpliejgpaaNvLibB
import Derived.KernelRfl
import Derived.Shelf.SlSortCmp.WholeK
import Derived.Lib.QuietBelow
import Derived.Shelf.SlSortCmp.NoneTotal
import Derived.Test.YtkonldpliejgpaaNvLibA
namespace Nv
open Go Go.RowKit
structure GInv (F : Fr) (nt : Nat) (ops : Array Oper) (H0 : List Ob) (p0 p : Nat) (zs fs : Nat → List D) (V : Nat → D) (env0 : List (Nat × D)) (listed : Array Bool) (a : Act) (c : Ctx) : Prop where
  H : ∃ X, c.H = H0 ++ X ∧ X.all ngone = true
  inv : Inv F c
  env : ∀ t, GV (yielded ops a.tmps) c (a.tmps.getD t undef) (valL ops (V1 p0 V) env0 (fun i => listed.getD i false = true) t)
  fl : ∃ fid : Nat → Nat, (∀ k, p0 ≤ k → k < p → listed.getD k false = true → H0.length ≤ fid k ∧ c.H[fid k]? = some (.box (ct p0 p zs fs listed k)) ∧ ∀ t, (ops[k]?).bind (·.dst) = some t → TV c (a.tmps.getD t undef) (.ref (fid k) 0)) ∧
    ∀ k l, p0 ≤ k → k < p → p0 ≤ l → l < p → listed.getD k false = true → listed.getD l false = true → fid k = fid l → k = l
  size : a.tmps.size = nt
  defers : a.defers = []
  opt : ∀ t j w d, valL ops (V1 p0 V) env0 (fun i => listed.getD i false = true) t = .opt j w d → listed.getD j false = true
  lsize : listed.size = ops.size
  closed : ∀ i j, Waits ops i j → listed.getD i false = true → listed.getD j false = true
theorem floatS_sound {P : Program} {F : Fr} [GF P F] {nt : Nat} {ops : Array Oper} {bs : List Bool} {rq : List Req} {E : Nat → List (Nat × D)} {HH : Nat → List Ob} {V : Nat → D} {H0 : List Ob} {p0 p : Nat} {zs fs : Nat → List D} (hfl : flowB ops = true)
    (hp : p0 ≤ p) (hpn : p + (p - p0) = ops.size) (hH0 : HH 0 = H0)
    (hbl : H0.all (blO H0.length) = true) (hfs : ∀ k, p0 ≤ k → k < p → (fs k).all (blC H0.length) = true)
    (hnw : ∀ k o, ops[k]? = some o → k < p0 → wrB o.op = false) (hok : ∀ t, okT H0.length (find (E p0) t) = true)
    (hdst : ∀ (k t : Nat), (ops[k]?).bind (·.dst) = some t → t < nt)
    (hal : ∀ k, p0 ≤ k → k < p → ∃ o t, ops[k]? = some o ∧ o.op = .alloc t ∧ o.guard = none ∧ zeroD P t = some (zs k))
    (hst : ∀ k, p0 ≤ k → k < p → ∃ o t u x, ops[k + (p - p0)]? = some o ∧ o.op = .store t (.tmp u) x ∧ o.guard = none ∧ o.dst = none ∧ (ops[k]?).bind (·.dst) = some u ∧
      (∀ t', x = .tmp t' → ∀ l, (ops[l]?).bind (·.dst) = some t' → l < p0) ∧ ∀ (H : List Ob) id, H[id]? = some (.box (zs k)) → storeD P H t (.ref id 0) (adj P t (evD (E p0) x)) = some (H.set id (.box (fs k))))
    (hT : TraceW P nt ops bs rq 0 p0 E HH V) (hb : ∀ b ∈ bs, b = true) (hq : ∀ q ∈ rq, q.ok P) {Q : Exit → Act → World → Prop}
    (hQ : ∀ a c, Inv F c → c.H = H0 ++ (List.range (p - p0)).map (fun q => Ob.box (fs (p0 + q))) → a.tmps.size = nt → a.defers = [] →
      (∀ k, p0 ≤ k → k < p → ∀ t, (ops[k]?).bind (·.dst) = some t → TV c (a.tmps.getD t undef) (.ref (H0.length + (k - p0)) 0)) →
      (∀ t, (∀ k, p0 ≤ k → k < p → (ops[k]?).bind (·.dst) ≠ some t) → TV c (a.tmps.getD t undef) (find (E p0) t)) → Q .normal a c.w) :
    ∀ (fuel : Nat) (listed : Array Bool) (a : Act) (c : Ctx), GInv F nt ops H0 p0 p zs fs V (E 0) listed a c → cnt listed + fuel = ops.size → wpAny P .any ops Q fuel listed a c.w := by
  simp only [flowB, Bool.and_eq_true, List.all_eq_true] at hfl
  obtain ⟨hnd, hfl⟩ := hfl
  have flow : ∀ i o, ops[i]? = some o → flowAt ops (Region.before ops) i o = true := fun i o ho => by
    have hlt := (Array.getElem?_eq_some_iff.1 ho).1
    refine hfl (o, i) ?_
    rw [List.mem_zipIdx_iff_getElem?]
    simpa using ho
  -- nothing is ready: all are listed
  have stuckAll : ∀ (listed : Array Bool), listed.size = ops.size → Region.ready .any ops listed = [] → ∀ i, i < ops.size → listed.getD i false = true := by
    intro listed hls hr i
    induction i using Nat.strongRecOn with
    | _ i ih =>
      intro hi
      cases hl : listed.getD i false with
      | true => rfl
      | false =>
        exfalso
        have : i ∈ Region.ready .any ops listed := by
          rw [mem_ready]
          refine ⟨by simp [hls, hi] at hl ⊢; exact hl, ops[i], by simp [hi], fun e he hbi => ?_⟩
          have h1 := flow i ops[i] (by simp [hi])
          simp only [flowAt, Bool.and_eq_true] at h1
          have h2 := Array.all_eq_true'.1 h1.1.1 e he
          simp only [hbi, Bool.not_true, Bool.false_or] at h2
          have h3 := blt_true h2
          exact ih e.on h3 (by omega)
        rw [hr] at this
        cases this
  have nodst : ∀ l t, (ops[l]?).bind (·.dst) = some t → l < p := fun l t hl => by
    rcases Nat.lt_or_ge l p with h | h
    · exact h
    · exfalso
      have hlt : l < ops.size := by
        obtain ⟨o, ho, _⟩ := Option.bind_eq_some_iff.1 hl
        exact (Array.getElem?_eq_some_iff.1 ho).1
      obtain ⟨o, t2, u, x, ho, _, _, hdn, _⟩ := hst (l - (p - p0)) (by omega) (by omega)
      rw [show l - (p - p0) + (p - p0) = l by omega] at ho
      rw [ho] at hl
      simp [hdn] at hl
  have fin : ∀ (listed : Array Bool) a c, GInv F nt ops H0 p0 p zs fs V (E 0) listed a c → (∀ i, i < ops.size → listed.getD i false = true) → Q .normal a c.w := fun listed a c hD hall => by
    obtain ⟨fid, f1, f2⟩ := hD.fl
    have hct : ∀ k, p0 ≤ k → k < p → ct p0 p zs fs listed k = fs k := fun k h1 h2 => by simp only [ct, hall (k + (p - p0)) (by omega)]; rfl
    obtain ⟨d, hw, _, hI, hH, _, htv, _, hfl', _⟩ := floats_in2 (ops := ops) (p0 := p0) (p := p) (zs := fs) (V := fun k => .ref (H0.length + (k - p0)) 0) (listed := listed) (a := a) (HH := fun k => H0 ++ (List.range (k - p0)).map (fun q => Ob.box (fs (p0 + q)))) hD.H hD.inv (fun j hj => hall j (by omega)) (by simp) (fun k h1 h2 => by
        show H0 ++ _ = (H0 ++ _) ++ _
        rw [show k + 1 - p0 = (k - p0) + 1 by omega, List.range_succ, List.map_append, List.append_assoc]
        simp only [List.map_cons, List.map_nil]
        rw [show p0 + (k - p0) = k by omega]) (fun k h1 h2 => rfl) hbl hfs fid (fun k h1 h2 h3 => by have := f1 k h1 h2 h3; rw [hct k h1 h2] at this; exact this) f2 (p - p0) (by omega)
    rw [← hw]
    refine hQ a d hI (by rw [hH]; simp only [show p0 + (p - p0) - p0 = p - p0 by omega]) hD.size hD.defers (fun k h1 h2 t ht => hfl' k h1 (by omega) t ht) fun t ht => ?_
    have hv := hD.env t
    have hval : valL ops (V1 p0 V) (E 0) (fun i => listed.getD i false = true) t = find (E p0) t := by
      rw [env_valW hnd hT p0 (Nat.le_refl _) t]
      refine val1_congr hnd (Nat.le_refl _) fun k hk => ⟨fun _ => ?_, fun h => hall k (by omega)⟩
      rcases Nat.lt_or_ge k p0 with h | h
      · exact h
      · exact absurd hk (ht k h (nodst k t hk))
    rw [hval] at hv
    have h4 := hok t
    generalize find (E p0) t = e at hv h4
    cases e <;> simp only [okT] at h4 <;> first | (cases h4; done) | exact htv _ _ hv h4
  intro fuel
  induction fuel with
  | zero =>
    intro listed a c hD hcnt
    have hall : ∀ i, i < ops.size → listed.getD i false = true := by
      have := cnt_full (listed := listed) (by rw [hD.lsize]; omega)
      rw [hD.lsize] at this
      exact this
    refine ⟨?_, fin listed a c hD hall⟩
    cases hr : Region.ready .any ops listed with
    | nil => rfl
    | cons i r =>
      exfalso
      have : i ∈ Region.ready .any ops listed := by rw [hr]; exact List.mem_cons_self
      obtain ⟨h1, o, ho, _⟩ := mem_ready.1 this
      have hi := (Array.getElem?_eq_some_iff.1 ho).1
      have h2 := hall i hi
      simp [hD.lsize, hi] at h1 h2
      rw [h1] at h2
      cases h2
  | succ fuel ih =>
    intro listed a c hD hcnt
    refine ⟨fun hr => fin listed a c hD (stuckAll listed hD.lsize hr), fun i hi => ?_⟩
    obtain ⟨hun, o, ho, hall⟩ := mem_ready.1 hi
    have hilt := (Array.getElem?_eq_some_iff.1 ho).1
    have hunf : listed.getD i false = false := by simp [hD.lsize, hilt] at hun ⊢; exact hun
    have hwaits : ∀ j, Waits ops i j → listed.getD j false = true := fun j ⟨o', ho', e, he, hbi, hon⟩ => by
      rw [ho] at ho'
      cases ho'
      rw [← hon]
      exact hall e he hbi
    have reachI : ∀ l, ((Region.before ops).getD i 0).testBit l = true → listed.getD l false = true := fun l hb2 => closed_reach hD.closed (before_reach ops i l hilt hb2) hwaits
    -- a store stands behind its allocation
    have hsa : ∀ k, p0 ≤ k → k < p → listed.getD (k + (p - p0)) false = true → listed.getD k false = true := fun k h1 h2 hl => by
      obtain ⟨o2, t2, u, x, ho2, hop2, _, _, hdu, _⟩ := hst k h1 h2
      have hf := flow _ _ ho2
      simp only [flowAt, Bool.and_eq_true] at hf
      have h3 := List.all_eq_true.1 hf.2 u (by simp only [needs, List.mem_append, List.mem_filterMap]; exact .inl ⟨.tmp u, by rw [hop2]; simp [Op.operands], rfl⟩)
      obtain ⟨ok, hok1, hdk⟩ := Option.bind_eq_some_iff.1 hdu
      have h4 := List.all_eq_true.1 h3 (ok, k) (by rw [List.mem_zipIdx_iff_getElem?]; simpa using hok1)
      simp only [hdk, Nat.beq_refl, Bool.not_true, Bool.false_or, Bool.or_eq_true, Bool.and_eq_true] at h4
      rcases h4 with (h4 | ⟨_, h5⟩) | ⟨h4, _⟩
      · have := Nat.eq_of_beq_eq_true h4; omega
      · exact closed_reach hD.closed (before_reach ops _ k (by omega) h5) (fun j hj => hD.closed _ _ hj hl)
      · have := blt_true h4; omega
    have new : ∀ v c', Inv F c' → (∃ X, c'.H = H0 ++ X ∧ X.all ngone = true) → (∀ u e, TV c u e → TV c' u e) → GV (yielded ops (a.put o.dst v).tmps) c' v (V1 p0 V i) → (∀ j w d, V1 p0 V i = .opt j w d → listed.getD j false = true) →
        (∃ fid : Nat → Nat, (∀ k, p0 ≤ k → k < p → (listed.setIfInBounds i true).getD k false = true → H0.length ≤ fid k ∧ c'.H[fid k]? = some (.box (ct p0 p zs fs (listed.setIfInBounds i true) k)) ∧ ∀ t, (ops[k]?).bind (·.dst) = some t → TV c' ((a.put o.dst v).tmps.getD t undef) (.ref (fid k) 0)) ∧
          ∀ k l, p0 ≤ k → k < p → p0 ≤ l → l < p → (listed.setIfInBounds i true).getD k false = true → (listed.setIfInBounds i true).getD l false = true → fid k = fid l → k = l) →
        wpAny P .any ops Q fuel (listed.setIfInBounds i true) (a.put o.dst v) c'.w := fun v c' hI' hHn htr hv hvo hfl' => by
      have hL : ∀ j, (listed.setIfInBounds i true).getD j false = true ↔ j = i ∨ listed.getD j false = true := fun j => by
        by_cases hji : j = i
        · subst hji; simp [hD.lsize, hilt]
        · rw [getD_set_ne false (Ne.symm hji)]; simp [hji]
      have hvalo : ∀ t, (∀ u, o.dst = some u → u ≠ t) → valL ops (V1 p0 V) (E 0) (fun j => (listed.setIfInBounds i true).getD j false = true) t = valL ops (V1 p0 V) (E 0) (fun j => listed.getD j false = true) t := fun t ht => by
        refine valL_congr hnd fun k hk => ?_
        show (listed.setIfInBounds i true).getD k false = true ↔ _
        rw [hL]
        refine ⟨fun h => ?_, .inr⟩
        rcases h with rfl | h
        · rw [ho] at hk
          exact absurd rfl (ht t hk)
        · exact h
      have hyj : ∀ j, listed.getD j false = true → yielded ops (a.put o.dst v).tmps j = yielded ops a.tmps j := fun j hj => yielded_put fun t ht e => by
        have := dsts_spec hnd (show (ops[i]?).bind (·.dst) = some t by rw [ho]; exact ht) e
        subst this
        rw [hunf] at hj
        cases hj
      have keep : ∀ t, GV (yielded ops (a.put o.dst v).tmps) c' (a.tmps.getD t undef) (valL ops (V1 p0 V) (E 0) (fun j => listed.getD j false = true) t) := fun t => by
        have h1 := gv_trans htr (hD.env t)
        cases hf : valL ops (V1 p0 V) (E 0) (fun j => listed.getD j false = true) t <;> rw [hf] at h1 <;> try exact h1
        rename_i j w d
        simp only [GV] at h1 ⊢
        rw [hyj j (hD.opt t j w d hf)]
        exact h1
      refine ih _ _ c' ⟨hHn, hI', fun t => ?_, hfl', by rw [size_put]; exact hD.size, by rw [defers_put]; exact hD.defers, fun t j w d hf => ?_, by simp [hD.lsize], fun p q hpq hp => ?_⟩ ?_
      · by_cases hdt : o.dst = some t
        · have hit : (ops[i]?).bind (·.dst) = some t := by rw [ho]; exact hdt
          rw [valL_some hnd hit ((hL i).2 (.inl rfl))]
          have htl : t < a.tmps.size := by rw [hD.size]; exact hdst i t hit
          have e : (a.put o.dst v).tmps.getD t undef = v := by rw [hdt]; exact getD_put_same htl
          rw [e]
          exact hv
        · rw [hvalo t (fun u hu e => hdt (by rw [hu, e])), getD_put hdt]
          exact keep t
      · rw [hL]
        right
        by_cases hdt : o.dst = some t
        · have hit : (ops[i]?).bind (·.dst) = some t := by rw [ho]; exact hdt
          rw [valL_some hnd hit ((hL i).2 (.inl rfl))] at hf
          exact hvo j w d hf
        · rw [hvalo t (fun u hu e => hdt (by rw [hu, e]))] at hf
          exact hD.opt t j w d hf
      · rw [hL] at hp ⊢
        right
        rcases hp with rfl | hp
        · exact hwaits q hpq
        · exact hD.closed p q hpq hp
      · rw [cnt_set (by rw [hD.lsize]; exact hilt) hunf]
        omega
    have fput : ∀ v c', (∀ u e, TV c u e → TV c' u e) → ∀ k t, k ≠ i → (ops[k]?).bind (·.dst) = some t → ∀ e, TV c (a.tmps.getD t undef) e → TV c' ((a.put o.dst v).tmps.getD t undef) e := fun v c' htr k t hki hk e h => by
      rw [getD_put (fun hdt => hki (dsts_spec hnd hk (by rw [ho]; exact hdt)))]
      exact htr _ _ h
    rcases Nat.lt_or_ge i p0 with hi0 | hi0
    · have hwr := hnw i o ho hi0
      obtain ⟨o', orc0, b, r, orc1, ho', hstep, hb1, hr1⟩ := hT.step i (Nat.zero_le _) hi0
      rw [ho] at ho'
      cases ho'
      have hHi : HH i = H0 := by
        have := same_heap hT (p := 0) i (by omega) fun w ow h1 h2 how => hnw w ow how (by omega)
        rw [Nat.zero_add] at this
        rw [this, hH0]
      have e1 : V1 p0 V i = V i := by simp [V1, hi0]
      have newP : ∀ v c', Inv F c' → c'.H = c.H → (∀ u e, TV c u e → TV c' u e) → GV (yielded ops (a.put o.dst v).tmps) c' v (V i) → (∀ j w d, V i = .opt j w d → listed.getD j false = true) →
          wpAny P .any ops Q fuel (listed.setIfInBounds i true) (a.put o.dst v) c'.w := fun v c' hI' hH' htr hv hvo => by
        obtain ⟨fid, f1, f2⟩ := hD.fl
        refine new v c' hI' (by rw [hH']; exact hD.H) htr (by rw [e1]; exact hv) (by rw [e1]; exact hvo) ⟨fid, fun k h1 h2 h3 => ?_, fun k l h1 h2 h3 h4 h5 h6 h7 => ?_⟩
        · rw [getD_set_ne false (by omega)] at h3
          obtain ⟨g1, g2, g3⟩ := f1 k h1 h2 h3
          exact ⟨g1, by rw [hH', ct_ne (by omega)]; exact g2, fun t ht => fput v c' htr k t (by omega) ht _ (g3 t ht)⟩
        · rw [getD_set_ne false (by omega)] at h5 h6
          exact f2 k l h1 h2 h3 h4 h5 h6 h7
      have reachI : ∀ l, ((Region.before ops).getD i 0).testBit l = true → listed.getD l false = true := fun l hb2 => closed_reach hD.closed (before_reach ops i l hilt hb2) hwaits
      have hfa := flow i o ho
      simp only [flowAt, Bool.and_eq_true] at hfa
      obtain ⟨⟨hf1, hf2⟩, hf3⟩ := hfa
      -- what the operation looks at has its value of the text's order
      have same : ∀ t ∈ needs ops o, valL ops (V1 p0 V) (E 0) (fun i => listed.getD i false = true) t = find (E i) t := fun t ht => by
        rw [env_valW hnd hT i (by omega) t]
        refine val1_congr hnd (Nat.le_of_lt hi0) fun k hk => ?_
        have h1 := List.all_eq_true.1 hf3 t ht
        obtain ⟨ok, hok, hdk⟩ := Option.bind_eq_some_iff.1 hk
        have hklt := (Array.getElem?_eq_some_iff.1 hok).1
        have h2 := List.all_eq_true.1 h1 (ok, k) (by rw [List.mem_zipIdx_iff_getElem?]; simpa using hok)
        simp only [hdk] at h2
        have e1 : Nat.beq t t = true := Nat.beq_refl t
        rw [e1] at h2
        simp only [Bool.not_true, Bool.false_or, Bool.or_eq_true, Bool.and_eq_true] at h2
        rcases h2 with (h2 | ⟨h2, h3⟩) | ⟨h2, h3⟩
        · obtain rfl := Nat.eq_of_beq_eq_true h2
          exact ⟨fun h => (by rw [hunf] at h; cases h), fun h => by omega⟩
        · exact ⟨fun _ => blt_true h2, fun _ => closed_reach hD.closed (before_reach ops i k hilt h3) hwaits⟩
        · have hik := blt_true h2
          refine ⟨fun h => ?_, fun h => by omega⟩
          have := closed_reach hD.closed (before_reach ops k i hklt h3) (fun j hj => hD.closed _ _ hj h)
          rw [hunf] at this
          cases this
      have hops : ∀ x ∈ o.op.operands.toList, GV (yielded ops a.tmps) c (a.eval x) (evD (E i) x) := fun x hx => by
        cases x with
        | tmp t =>
          show GV _ _ _ (find (E i) t)
          rw [← same t (by simp only [needs, List.mem_append, List.mem_filterMap]; exact .inl ⟨.tmp t, hx, rfl⟩)]
          exact hD.env t
        | const v => exact gv_of_tv (tv_dv c v)
        | global g => exact gv_of_tv tv_any
        | func f => exact gv_of_tv ⟨#[], rfl, rfl, fun i v d h1 _ => by simp at h1⟩
      have hgf : GuardFacts ops a c (E i) (gch ops 20 o.guard) := fun p hp t ht => by
        rw [← same t (by simp only [needs, List.mem_append, List.mem_filterMap]; exact .inr ⟨p, hp, ht⟩)]
        exact hD.env t
      unfold wpOp
      simp only [ho]
      unfold stepDw at hstep
      rw [hwr] at hstep
      simp only at hstep
      split at hstep
      case h_2 => cases hstep
      rename_i d0 b0 r0 o0 hstep0
      simp only [Option.some.injEq, Prod.mk.injEq] at hstep
      obtain ⟨hV0, _, rfl, rfl, rfl⟩ := hstep
      rw [hV0] at hstep0
      rename_i hstep
      have hstep := hstep0
      unfold stepDr at hstep
      split at hstep <;> try cases hstep
      rename_i g hg
      have hopc : ∀ {x}, opD P (HH i) ops (E i) (gch ops 20 o.guard) orc0 g o = some x → opD P c.H ops (E i) (gch ops 20 o.guard) orc0 g o = some x := fun {x} h => by
        obtain ⟨X, hX, _⟩ := hD.H
        rw [hX, ← hHi]
        exact opD_more X h
      split at hstep
      · rename_i d bs0 rq0 orc2 j want hop hgd
        cases hlt : Nat.blt j i with
        | false => simp [hlt] at hstep
        | true =>
          simp only [hlt, cond_true, Option.some.injEq, Prod.mk.injEq] at hstep
          obtain ⟨hV, rfl, rfl, rfl⟩ := hstep
          have hji := blt_true hlt
          have hyj : ∀ v, yielded ops (a.put o.dst v).tmps j = yielded ops a.tmps j := fun v => yielded_put fun t ht e => by
            have := dsts_spec hnd (show (ops[i]?).bind (·.dst) = some t by rw [ho]; exact ht) e
            omega
          have hjl : listed.getD j false = true := by
            rw [hgd] at hf2
            simp only at hf2
            obtain ⟨e, he, h1⟩ := Array.any_eq_true'.1 hf2
            simp only [Bool.and_eq_true] at h1
            rw [← Nat.eq_of_beq_eq_true h1.2]
            exact hall e he h1.1
          have hwant : Region.wanted o (yielded ops a.tmps) = (yielded ops a.tmps j == some want) := by simp [Region.wanted, hgd]
          have hvo : ∀ j' w d', V i = .opt j' w d' → listed.getD j' false = true := fun j' w d' h => by rw [← hV] at h; cases h; exact hjl
          cases hw : Region.wanted o (yielded ops a.tmps) with
          | true =>
            simp only [if_true]
            refine .inl (op_sound hD.inv hops hgf hg hw (hopc hop) (fun b hb' => hb b (hb1 b hb')) (fun q hq' => hq q (hr1 q hq')) fun v c' hI' haf => ?_)
            obtain ⟨hgo, _, htv⟩ := haf
            refine newP v c' hI' hgo.H (fun _ _ => hgo.tv) ?_ hvo
            rw [← hV]
            refine .inl ⟨?_, htv⟩
            rw [hyj]
            rw [hw] at hwant
            simpa using hwant.symm
          | false =>
            simp only [Bool.false_eq_true, if_false]
            refine newP undef c hD.inv rfl (fun _ _ h => h) ?_ hvo
            rw [← hV]
            refine .inr ⟨?_, rfl⟩
            rw [hyj]
            rw [hw] at hwant
            simpa using hwant.symm
      · rename_i d bs0 rq0 orc2 hop hgd
        simp only [Option.some.injEq, Prod.mk.injEq] at hstep
        obtain ⟨hV, rfl, rfl, rfl⟩ := hstep
        have hw : Region.wanted o (yielded ops a.tmps) = true := by simp [Region.wanted, hgd]
        simp only [hw, if_true]
        refine .inl (op_sound hD.inv hops hgf hg hw (hopc hop) (fun b hb' => hb b (hb1 b hb')) (fun q hq' => hq q (hr1 q hq')) fun v c' hI' haf => ?_)
        obtain ⟨hgo, _, htv⟩ := haf
        refine newP v c' hI' hgo.H (fun _ _ => hgo.tv) ?_ (fun j w d' h => ?_)
        · rw [← hV]; exact gv_of_tv htv
        · rw [← hV] at h
          subst h
          simp only [TV, AV] at htv
          exact absurd htv cv_not_opt
      · cases hstep
    rcases Nat.lt_or_ge i p with hip | hip
    · obtain ⟨o2, t2, ho2, hop2, hgd, hz⟩ := hal i hi0 hip
      rw [ho] at ho2
      cases ho2
      unfold wpOp
      simp only [ho]
      have hw : Region.wanted o (yielded ops a.tmps) = true := by simp [Region.wanted, hgd]
      simp only [hw, if_true]
      obtain ⟨v, c', hrun', hI', hH', htr, htv⟩ := heapD_ok (P := P) (ρc := a.eval) (ρd := fun _ => .any) hD.inv (o := o) (fun x hx => by rw [hop2] at hx; simp [Op.operands] at hx) (d := .ref c.H.length 0) (H' := c.H ++ [.box (zs i)]) (pid := none) (bs := []) (by rw [hop2]; simp [heapD, allocD, hz]) (by simp)
      have htr : ∀ u e, TV c u e → TV c' u e := fun u e h => htr u e h
      have e1 : V1 p0 V i = .any := by simp [V1, show ¬ i < p0 by omega]
      obtain ⟨X, hX, hXg⟩ := hD.H
      obtain ⟨fid, f1, f2⟩ := hD.fl
      have hset : ∀ k, k ≠ i → (listed.setIfInBounds i true).getD k false = true → listed.getD k false = true := fun k hk h => by rwa [getD_set_ne false (Ne.symm hk)] at h
      have hltf : ∀ k, p0 ≤ k → k < p → listed.getD k false = true → fid k < c.H.length := fun k h1 h2 h3 => (List.getElem?_eq_some_iff.1 (f1 k h1 h2 h3).2.1).1
      have hnew := new v c' hI' ⟨X ++ [.box (zs i)], by rw [hH', hX, List.append_assoc], by simp [hXg, ngone]⟩ htr (by rw [e1]; exact gv_of_tv tv_any) (fun j w d h => by rw [e1] at h; cases h)
        ⟨fun k => if k = i then c.H.length else fid k, fun k h1 h2 h3 => ?_, fun k l h1 h2 h3 h4 h5 h6 h7 => ?_⟩
      · refine .inl ?_
        unfold Oper.wp
        rcases hrun' with h1 | ⟨h1, rfl⟩
        · rw [h1]; exact hnew
        · rw [h1]; exact hnew
      · by_cases hki : k = i
        · subst hki
          simp only [if_true]
          refine ⟨by rw [hX]; simp, ?_, fun t ht => ?_⟩
          · have hun2 : listed.getD (k + (p - p0)) false = false := by
              cases hl : listed.getD (k + (p - p0)) false with
              | false => rfl
              | true => rw [hsa k h1 h2 hl] at hunf; cases hunf
            rw [hH']; simp [ct, getD_set_ne false (show k ≠ k + (p - p0) by omega), hun2]
          rw [ho] at ht
          have htl : t < a.tmps.size := by rw [hD.size]; exact hdst k t (by rw [ho]; exact ht)
          have e : (a.put o.dst v).tmps.getD t undef = v := by
            have ht : o.dst = some t := ht
            rw [ht]; exact getD_put_same htl
          rw [e]
          exact htv
        · simp only [if_neg hki]
          obtain ⟨g1, g2, g3⟩ := f1 k h1 h2 (hset k hki h3)
          exact ⟨g1, by rw [hH', ct_ne (by omega)]; exact get_more _ g2, fun t ht => fput v c' htr k t hki ht _ (g3 t ht)⟩
      · have h7 : (if k = i then c.H.length else fid k) = (if l = i then c.H.length else fid l) := h7
        by_cases hki : k = i <;> by_cases hli : l = i
        · omega
        · rw [if_pos hki, if_neg hli] at h7
          have := hltf l h3 h4 (hset l hli h6); omega
        · rw [if_neg hki, if_pos hli] at h7
          have := hltf k h1 h2 (hset k hki h5); omega
        · rw [if_neg hki, if_neg hli] at h7
          exact f2 k l h1 h2 h3 h4 (hset k hki h5) (hset l hli h6) h7
    · -- a store into a floating variable
      have hm : p - p0 + p = ops.size := by omega
      have hk1 : p0 ≤ i - (p - p0) := by omega
      have hk2 : i - (p - p0) < p := by omega
      obtain ⟨o2, t2, u, x, ho2, hop2, hgd, hdn, hdu, hx, hsto⟩ := hst (i - (p - p0)) hk1 hk2
      rw [show i - (p - p0) + (p - p0) = i by omega, ho] at ho2
      cases ho2
      generalize hkk : i - (p - p0) = k at *
      have hik : i = k + (p - p0) := by omega
      have need : ∀ t', t' ∈ needs ops o → ∀ l, (ops[l]?).bind (·.dst) = some t' → l < i → listed.getD l false = true := fun t' ht' l hl hli => by
        have hf := flow _ _ ho
        simp only [flowAt, Bool.and_eq_true] at hf
        have h3 := List.all_eq_true.1 hf.2 t' ht'
        obtain ⟨ok, hok1, hdk⟩ := Option.bind_eq_some_iff.1 hl
        have h4 := List.all_eq_true.1 h3 (ok, l) (by rw [List.mem_zipIdx_iff_getElem?]; simpa using hok1)
        simp only [hdk, Nat.beq_refl, Bool.not_true, Bool.false_or, Bool.or_eq_true, Bool.and_eq_true] at h4
        rcases h4 with (h4 | ⟨_, h5⟩) | ⟨h4, _⟩
        · have := Nat.eq_of_beq_eq_true h4; omega
        · exact reachI l h5
        · have := blt_true h4; omega
      have hkl : listed.getD k false = true := need u (by simp only [needs, List.mem_append, List.mem_filterMap]; exact .inl ⟨.tmp u, by rw [hop2]; simp [Op.operands], rfl⟩) k hdu (by omega)
      have hxv : TV c (a.eval x) (evD (E p0) x) := by
        cases x with
        | tmp t' =>
          show TV c _ (find (E p0) t')
          have hv := hD.env t'
          have hval : valL ops (V1 p0 V) (E 0) (fun i => listed.getD i false = true) t' = find (E p0) t' := by
            rw [env_valW hnd hT p0 (Nat.le_refl _) t']
            refine val1_congr hnd (Nat.le_refl _) fun l hl => ⟨fun _ => hx t' rfl l hl, fun h => need t' (by simp only [needs, List.mem_append, List.mem_filterMap]; exact .inl ⟨.tmp t', by rw [hop2]; simp [Op.operands], rfl⟩) l hl (by omega)⟩
          rw [hval] at hv
          have h4 := hok t'
          show TV c (a.tmps.getD t' undef) _
          generalize find (E p0) t' = e at hv h4
          cases e <;> simp only [okT] at h4 <;> first | (cases h4; done) | exact hv
        | const v => exact tv_dv c v
        | global g => exact tv_any
        | func f => exact ⟨#[], rfl, rfl, fun i v d h1 _ => by simp at h1⟩
      obtain ⟨fid, f1, f2⟩ := hD.fl
      obtain ⟨g1, g2, g3⟩ := f1 k hk1 hk2 hkl
      have hct : ct p0 p zs fs listed k = zs k := by simp only [ct, ← hik, hunf]; rfl
      rw [hct] at g2
      unfold wpOp
      simp only [ho]
      have hw : Region.wanted o (yielded ops a.tmps) = true := by simp [Region.wanted, hgd]
      simp only [hw, if_true]
      have hA : ∀ y ∈ o.op.operands.toList, TV c (a.eval y) ((fun y => bif isTmp u y then .ref (fid k) 0 else evD (E p0) y) y) := fun y hy => by
        show TV c (a.eval y) (bif isTmp u y then .ref (fid k) 0 else evD (E p0) y)
        rw [hop2] at hy
        simp only [Op.operands] at hy
        cases hb2 : isTmp u y with
        | true =>
          obtain rfl := isTmp_eq hb2
          simp only [cond_true]
          exact g3 u hdu
        | false =>
          simp only [cond_false]
          have hyx : y = x := by
            simp at hy
            rcases hy with rfl | rfl
            · simp [isTmp, Nat.beq_refl] at hb2
            · rfl
          subst hyx
          exact hxv
      have hB : heapD P c.H (fun y => bif isTmp u y then .ref (fid k) 0 else evD (E p0) y) o.op = some (.any, c.H.set (fid k) (.box (fs k)), none, []) := by
        rw [hop2]
        have hxu : isTmp u x = false := by
          cases h : isTmp u x with
          | false => rfl
          | true => have := hx u (isTmp_eq h) k hdu; omega
        have hu : isTmp u (.tmp u) = true := by simp [isTmp, Nat.beq_refl]
        simp only [heapD, hu, hxu, cond_true, cond_false]
        rw [hsto _ _ g2]
        rfl
      obtain ⟨v, c', hrun', hI', hH', htr, htv⟩ := heapD_ok (P := P) (ρc := a.eval) hD.inv (o := o) hA hB (by simp)
      have htr : ∀ y e, TV c y e → TV c' y e := fun y e h => htr y e h
      have e1 : V1 p0 V i = .any := by simp [V1, show ¬ i < p0 by omega]
      obtain ⟨X, hX, hXg⟩ := hD.H
      have hset : ∀ j, j ≠ i → (listed.setIfInBounds i true).getD j false = true → listed.getD j false = true := fun j hj h => by rwa [getD_set_ne false (Ne.symm hj)] at h
      have hnew := new v c' hI' ⟨X.set (fid k - H0.length) (.box (fs k)), by rw [hH', hX, List.set_append_right _ _ g1], all_set hXg rfl⟩ htr (by rw [e1]; exact gv_of_tv tv_any) (fun j w d h => by rw [e1] at h; cases h)
        ⟨fid, fun j h1 h2 h3 => ?_, fun j l h1 h2 h3 h4 h5 h6 h7 => f2 j l h1 h2 h3 h4 (hset j (by omega) h5) (hset l (by omega) h6) h7⟩
      · refine .inl ?_
        unfold Oper.wp
        rcases hrun' with h1 | ⟨h1, rfl⟩
        · rw [h1]; exact hnew
        · rw [h1]; exact hnew
      · have h3' := hset j (by omega) h3
        obtain ⟨q1, q2, q3⟩ := f1 j h1 h2 h3'
        refine ⟨q1, ?_, fun t ht => fput v c' htr j t (by omega) ht _ (q3 t ht)⟩
        rw [hH']
        by_cases hjk : j = k
        · subst hjk
          have hlt := (List.getElem?_eq_some_iff.1 g2).1
          have hc2 : ct p0 p zs fs (listed.setIfInBounds i true) j = fs j := by
            simp only [ct, ← hik]
            rw [show (listed.setIfInBounds i true).getD i false = true by simp [hD.lsize, hilt]]; rfl
          rw [hc2, List.getElem?_set_self hlt]
        · have hne : fid j ≠ fid k := fun e => hjk (f2 j k h1 h2 hk1 hk2 h3' hkl e)
          rw [List.getElem?_set_ne (Ne.symm hne), ct_ne (by omega)]
          exact q2
end Nv
namespace Nv
open Go Go.RowKit
def fsOf (P : Program) (ops : Array Oper) (p0 p : Nat) (e1 : List (Nat × D)) (k : Nat) : List D :=
  match ops[k + (p - p0)]? with
  | some o => match o.op with
    | .store t _ x => match cellsOfD (adj P t (evD e1 x)) with
      | some cs => splice (zsOf P ops k) cs 0
      | none => []
    | _ => []
  | none => []
def srcB (ops : Array Oper) (p0 : Nat) : Operand → Bool
  | .tmp t => ops.toList.zipIdx.all fun q => match q.1.dst with | some d => !Nat.beq d t || Nat.blt q.2 p0 | none => true
  | _ => true
def stB (P : Program) (n : Nat) (ops : Array Oper) (p0 p : Nat) (e1 : List (Nat × D)) (k : Nat) : Bool :=
  match ops[k + (p - p0)]?, (ops[k]?).bind (·.dst) with
  | some o, some u => match o.op, o.guard, o.dst with
    | .store t (.tmp u') x, none, none => Nat.beq u' u && srcB ops p0 x && (match szO P t, cellsOfD (adj P t (evD e1 x)) with
      | some kk, some cs => Nat.beq cs.length kk && cs.all cellB && Nat.ble (0 + kk) (zsOf P ops k).length && (splice (zsOf P ops k) cs 0).all (blC n)
      | _, _ => false)
    | _, _, _ => false
  | _, _ => false
theorem stB_spec {P : Program} {n : Nat} {ops : Array Oper} {p0 p : Nat} {e1 : List (Nat × D)} {k : Nat} (h : stB P n ops p0 p e1 k = true) :
    (∃ o t u x, ops[k + (p - p0)]? = some o ∧ o.op = .store t (.tmp u) x ∧ o.guard = none ∧ o.dst = none ∧ (ops[k]?).bind (·.dst) = some u ∧
      (∀ t', x = .tmp t' → ∀ l, (ops[l]?).bind (·.dst) = some t' → l < p0) ∧ ∀ (H : List Ob) id, H[id]? = some (.box (zsOf P ops k)) → storeD P H t (.ref id 0) (adj P t (evD e1 x)) = some (H.set id (.box (fsOf P ops p0 p e1 k)))) ∧ (fsOf P ops p0 p e1 k).all (blC n) = true := by
  unfold stB at h
  split at h
  · rename_i o u ho hu
    split at h
    · rename_i t u' x hop hg hd
      simp only [Bool.and_eq_true] at h
      obtain ⟨⟨h1, h2⟩, h3⟩ := h
      obtain rfl := Nat.eq_of_beq_eq_true h1
      split at h3
      · rename_i kk cs hk hcs
        simp only [Bool.and_eq_true] at h3
        obtain ⟨⟨⟨h4, h5⟩, h6⟩, h7⟩ := h3
        have e : fsOf P ops p0 p e1 k = splice (zsOf P ops k) cs 0 := by simp only [fsOf, ho, hop, hcs]
        refine ⟨⟨o, t, u', x, ho, hop, hg, hd, hu, fun t' hx l hl => ?_, fun H id hH => ?_⟩, by rw [e]; exact h7⟩
        · subst hx
          obtain ⟨ol, hol, hdl⟩ := Option.bind_eq_some_iff.1 hl
          have := List.all_eq_true.1 h2 (ol, l) (by rw [List.mem_zipIdx_iff_getElem?]; simpa using hol)
          simp only [hdl, Nat.beq_refl, Bool.not_true, Bool.false_or] at this
          exact blt_true this
        · simp only [storeD, hk, hcs, h4, h5, Bool.and_self, cond_true, hH, h6, e]
      · cases h3
    · cases h
  · cases h
def regG (P : Program) (ops : Array Oper) (p0 p : Nat) (orc : List Res) (keep : List Nat) (hn : Nat) (s : St) : Option (St × List Bool × List Req) :=
  bif flowB ops && P.follows .mixedOrders && Nat.ble p0 p && Nat.beq (p + (p - p0)) ops.size && (ops.toList.take p0).all (fun o => !wrB o.op) && ((ops.toList.drop p0).take (p - p0)).all (allocB P s.H.length) && s.H.all (blO s.H.length) &&
      ops.toList.all (fun o => match o.dst with | some t => Nat.blt t s.nt | none => true) then
    match runDw P s.nt ops 0 (ops.toList.take p0) s.env s.H orc with
    | some (e1, _, bs1, rq1, _) => bif e1.all (fun q => okT s.H.length q.2) && (List.range (p - p0)).all (fun j => stB P s.H.length ops p0 p e1 (p0 + j)) then
        (cutS hn ⟨s.nt, fin ((List.range (p - p0)).map (fun j => (((ops[p0 + j]?).bind (·.dst)).getD 0, D.ref (s.H.length + j) 0)) ++ e1) keep, s.H ++ (List.range (p - p0)).map (fun q => Ob.box (fsOf P ops p0 p e1 (p0 + q)))⟩).map fun s' => (s', bs1, rq1)
      else none
    | none => none
  else none
theorem find_app {c : Ctx} {a : Act} {e : List (Nat × D)} {t : Nat} : ∀ {L : List (Nat × D)}, (∀ q ∈ L, TV c (a.tmps.getD q.1 undef) q.2) → ((∀ q ∈ L, q.1 ≠ t) → TV c (a.tmps.getD t undef) (find e t)) → TV c (a.tmps.getD t undef) (find (L ++ e) t)
  | [], _, h2 => h2 (by simp)
  | q :: L, h1, h2 => by
    simp only [List.cons_append, find]
    cases hb : Nat.beq q.1 t with
    | true =>
      obtain rfl := Nat.eq_of_beq_eq_true hb
      exact h1 q (by simp)
    | false =>
      refine find_app (fun x hx => h1 x (List.mem_cons_of_mem _ hx)) fun h3 => h2 fun x hx => ?_
      · rcases List.mem_cons.1 hx with rfl | hx
        · exact Nat.ne_of_beq_eq_false hb
        · exact h3 x hx
theorem awp_regionG {P : Program} {Q : Exit → St → Prop} {s : St} {id : Nat} {ops : Array Oper} (p0 p : Nat) (orc : List Res) (keep : List Nat) (hn : Nat) {s' : St} {bs : List Bool} {rq : List Req}
    (h : regG P ops p0 p orc keep hn s = some (s', bs, rq)) (hb : ∀ b ∈ bs, b = true) (hq : ∀ q ∈ rq, q.ok P) (k : Q .normal s') : AWP P (.region id ops true) Q s := by
  rintro F a w hG ⟨c, rfl, hH, hI, henv, hsz, hd⟩
  unfold regG at h
  generalize hc : (flowB ops && _ && _ && _ && _ && _ && _ && _) = bb at h
  cases bb with
  | false => cases h
  | true =>
    simp only [cond_true] at h
    simp only [Bool.and_eq_true] at hc
    obtain ⟨⟨⟨⟨⟨⟨⟨c1, c2⟩, c5⟩, c6⟩, c7⟩, c8⟩, c9⟩, c10⟩ := hc
    have hp : p0 ≤ p := Nat.le_of_ble_eq_true c5
    have hpn : p + (p - p0) = ops.size := Nat.eq_of_beq_eq_true c6
    split at h <;> try cases h
    rename_i e1 H1 bs1 rq1 orc1 hrun1
    cases hok : (e1.all (fun q => okT s.H.length q.2) && (List.range (p - p0)).all (fun j => stB P s.H.length ops p0 p e1 (p0 + j))) with
    | false => rw [hok] at h; cases h
    | true =>
    rw [hok] at h
    simp only [cond_true] at h
    simp only [Bool.and_eq_true] at hok
    obtain ⟨hok, hst⟩ := hok
    obtain ⟨s1, hcut, heq⟩ := Option.map_eq_some_iff.1 h
    simp only [Prod.mk.injEq] at heq
    obtain ⟨rfl, rfl, rfl⟩ := heq
    refine wp_region_any c2 ?_
    have hl1 : (ops.toList.take p0).length = p0 := by simp; omega
    obtain ⟨E, HH, V, hE0, hH0, hE1, hH1, hT⟩ := traceW_of (ops.toList.take p0) 0 s.env e1 s.H H1 orc orc1 bs1 rq1 (fun j => by
      rcases Nat.lt_or_ge j p0 with h | h
      · left; rw [List.getElem?_take_of_lt h]; simp
      · right; omega) hrun1
    rw [hl1, Nat.zero_add] at hE1 hH1 hT
    have hstS : ∀ k, p0 ≤ k → k < p → stB P s.H.length ops p0 p e1 k = true := fun k h1 h2 => by
      have := List.all_eq_true.1 hst (k - p0) (List.mem_range.2 (by omega))
      rwa [show p0 + (k - p0) = k by omega] at this
    have hnw : ∀ k o, ops[k]? = some o → k < p0 → wrB o.op = false := fun k o ho hk => by
      have := List.all_eq_true.1 c7 o (List.mem_of_getElem? (i := k) (by rw [List.getElem?_take_of_lt hk]; simpa using ho))
      simpa using this
    have hal : ∀ k, p0 ≤ k → k < p → ∃ o t, ops[k]? = some o ∧ o.op = .alloc t ∧ o.guard = none ∧ zeroD P t = some (zsOf P ops k) := fun k h1 h2 => by
      have hlt : k < ops.size := by omega
      have ho : ops[k]? = some ops[k] := by simp [hlt]
      have := List.all_eq_true.1 c8 ops[k] (List.mem_of_getElem? (i := k - p0) (by rw [List.getElem?_take_of_lt (by omega), List.getElem?_drop, show p0 + (k - p0) = k by omega]; simp [hlt]))
      obtain ⟨t, h3, h4, h5, _⟩ := allocB_spec ho this
      exact ⟨_, t, ho, h3, h4, h5⟩
    have hdst : ∀ (k t : Nat), (ops[k]?).bind (·.dst) = some t → t < s.nt := fun k t hk => by
      obtain ⟨o, ho, hdo⟩ := Option.bind_eq_some_iff.1 hk
      have := List.all_eq_true.1 c10 o (List.mem_of_getElem? (i := k) (by simpa using ho))
      simp only [hdo] at this
      exact blt_true this
    let c' : Ctx := { c with w := c.w.drew }
    have hgo : Goes c c' := ⟨rfl, rfl, fun _ h => h, fun _ _ => rfl, fun b hb => (hI.imm b hb).1, fun id b hb => (hI.loc id b hb).2.1⟩
    have hI' : Inv F c' := hI.goes hgo (Bw.refl _ _).drew (fun _ h => .inl h)
    have hnone : ∀ i, ¬ (Array.replicate ops.size false).getD i false = true := fun i h => by rw [getD_rep_false] at h; cases h
    have hval : ∀ t, valL ops (V1 p0 V) (E 0) (fun i => (Array.replicate ops.size false).getD i false = true) t = find s.env t := fun t => by rw [valL_none (fun i _ => hnone i), hE0]
    have hD : GInv F s.nt ops s.H p0 p (zsOf P ops) (fsOf P ops p0 p e1) V (E 0) (Array.replicate ops.size false) a c' := by
      refine ⟨⟨[], by rw [List.append_nil]; exact hH, rfl⟩, hI', fun t => ?_, ⟨fun _ => 0, fun k _ _ h => absurd h (hnone k), fun k l _ _ _ _ h => absurd h (hnone k)⟩, hsz, hd, fun t j w d hf => ?_, by simp, fun i j _ h => absurd h (hnone i)⟩
      · rw [hval]; exact gv_of_tv (hgo.tv (henv t))
      · rw [hval] at hf
        have := henv t
        rw [hf] at this
        simp only [TV, AV] at this
        exact absurd this cv_not_opt
    refine floatS_sound c1 hp hpn hH0 c9 (fun k h1 h2 => (stB_spec (hstS k h1 h2)).2) hnw (fun t => by rw [hE1]; exact okT_find hok t) hdst hal (fun k h1 h2 => by rw [hE1]; exact (stB_spec (hstS k h1 h2)).1) hT hb hq (fun a' c'' hI2 hH2 hs2 hd2 hf hr => ⟨s1, k, ?_⟩) ops.size _ a c' hD (by simp [cnt, List.countP_replicate])
    refine le_cut hcut F a' c''.w (le_keep keep F a' c''.w ⟨c'', rfl, hH2, hI2, fun t => ?_, hs2, hd2⟩)
    refine find_app (fun q hq' => ?_) fun h3 => ?_
    · obtain ⟨j, hj, rfl⟩ := List.mem_map.1 hq'
      have hj := List.mem_range.1 hj
      obtain ⟨⟨_, _, u, _, _, _, _, _, hu, _⟩, _⟩ := stB_spec (hstS (p0 + j) (by omega) (by omega))
      have := hf (p0 + j) (by omega) (by omega) u hu
      simp only [hu, Option.getD_some]
      rwa [show p0 + j - p0 = j by omega] at this
    · rw [← hE1]
      refine hr t fun kk h1 h2 h4 => ?_
      refine h3 (((ops[p0 + (kk - p0)]?).bind (·.dst)).getD 0, D.ref (s.H.length + (kk - p0)) 0) (List.mem_map.2 ⟨kk - p0, List.mem_range.2 (by omega), rfl⟩) ?_
      rw [show p0 + (kk - p0) = kk by omega, h4]; rfl
theorem rgs {P : Program} {Q : Exit → St → Prop} {s : St} {id : Nat} {ops : Array Oper} (p0 p : Nat) (orc : List Res) (keep : List Nat) (hn : Nat) (s' : St) (bs : List Bool) (rq : List Req)
    (hb : ∀ b ∈ bs, b = true) (hq : Reqs P rq) (k : Q .normal s') (h : regG P ops p0 p orc keep hn s = some (s', bs, rq) := by kernel_rfl) : AWP P (.region id ops true) Q s := awp_regionG p0 p orc keep hn h hb hq.all k
end Nv
namespace Nv
open Go Go.RowKit
def cleanO (id : Nat) : Ob → Bool
  | .box cells => cells.all fun d => !mc id d
  | _ => true
theorem purgeO_clean {id : Nat} {o : Ob} (h : cleanO id o = true) : purgeO id o = o := by
  cases o with
  | box cells =>
    simp only [cleanO, List.all_eq_true, Bool.not_eq_true'] at h
    simp only [purgeO, Ob.box.injEq]
    conv => rhs; rw [← List.map_id cells]
    apply List.map_congr_left
    intro d hd
    rw [h d hd]; rfl
  | _ => rfl
theorem appD_new {P : Program} {H : List Ob} {t : TypeId} {s x d : D} {H' : List Ob} {bs : List Bool} (h : appD P H t s x = some (d, H', none, bs)) : ∃ n o, d = .asl H.length 0 n ∧ H' = H ++ [o] := by
  unfold appD at h
  split at h <;> try cases h
  rename_i sz by_ wd m g _ _
  cases h1 : Nat.beq wd sz with
  | false => rw [h1] at h; cases h
  | true =>
    rw [h1] at h
    simp only [cond_true] at h
    split at h
    · rename_i wd' n f _
      cases h2 : Nat.beq wd' sz with
      | false => rw [h2] at h; cases h
      | true =>
        rw [h2] at h
        simp only [cond_true, Option.some.injEq, Prod.mk.injEq] at h
        exact ⟨_, _, h.1.symm, h.2.1.symm⟩
    · split at h <;> try cases h
      rename_i wd' n' f _
      generalize (Nat.beq wd' sz && _ && _) = b at h
      cases b <;> simp at h
    · cases h
theorem appD_old {P : Program} {H0 : List Ob} {o0 : Ob} {t : TypeId} {p : Nat} {s x d : D} {H' : List Ob} {bs : List Bool} (hc : H0.all (cleanO H0.length) = true) (hp : p = H0.length)
    (h : appD P (H0 ++ [o0]) t s x = some (d, H', some p, bs)) : ∃ n o, d = .asl H0.length 0 n ∧ H' = H0 ++ [o] := by
  unfold appD at h
  split at h <;> try cases h
  rename_i sz by_ wd m g _ _
  cases h1 : Nat.beq wd sz with
  | false => rw [h1] at h; cases h
  | true =>
    rw [h1] at h
    simp only [cond_true] at h
    split at h
    · rename_i wd' n f _
      cases h2 : Nat.beq wd' sz with
      | false => rw [h2] at h; cases h
      | true => rw [h2] at h; simp at h
    · split at h <;> try cases h
      rename_i wd' n' f _
      generalize (Nat.beq wd' sz && _ && _) = b at h
      cases b with
      | false => cases h
      | true =>
        simp only [cond_true, Option.some.injEq, Prod.mk.injEq] at h
        obtain ⟨h2, h3, h4, _⟩ := h
        subst h4
        subst hp
        have e : ∀ o', ((H0 ++ [o0]).set H0.length o').map (purgeO H0.length) = H0 ++ [purgeO H0.length o'] := fun o' => by
          rw [List.set_append_right _ _ (Nat.le_refl _), Nat.sub_self, List.set_cons_zero, List.map_append]
          congr 1
          conv => rhs; rw [← List.map_id H0]
          apply List.map_congr_left
          intro o ho
          exact purgeO_clean (List.all_eq_true.1 hc o ho)
        exact ⟨_, _, h2.symm, h3.symm.trans (e _)⟩
    · cases h
def isApp : Op → Bool
  | .call { callee := .builtin .append, args := ⟨[_, _]⟩, argTypes := ⟨[_, _]⟩ } => true
  | _ => false
theorem heapD_app {P : Program} {H : List Ob} {ρ : Operand → D} {op : Op} {r : D × List Ob × Option Nat × List Bool} (ha : isApp op = true) (h : heapD P H ρ op = some r) : ∃ t s x, appD P H t s x = some r := by
  unfold isApp at ha
  split at ha
  · rename_i s x t u
    simp only [heapD] at h
    cases hb : Nat.beq t u with
    | false => rw [hb] at h; cases h
    | true => rw [hb] at h; exact ⟨_, _, _, h⟩
  · cases ha
def chE (ch : Option (Nat × D)) (env : List (Nat × D)) (x : Operand) : D :=
  match ch, x with
  | some (t0, d0), .tmp t => bif Nat.beq t t0 then d0 else unwrap [] (evD env x)
  | _, _ => unwrap [] (evD env x)
def pidOk (n : Nat) (ch : Option (Nat × D)) (pid : Option Nat) : Bool :=
  match ch, pid with
  | none, none => true
  | some _, some p => Nat.beq p n
  | _, _ => false
def lastW (ws : List Nat) : Nat := ws.getLastD 0
def hkA (ops : Array Oper) (ws : List Nat) (H0 HH : List Ob) (k : Nat) : List Ob := bif ((Region.before ops).getD k 0).testBit (lastW ws) then HH else H0
def stepA (P : Program) (ops : Array Oper) (ws : List Nat) (H0 : List Ob) (k : Nat) (HH : List Ob) (ch : Option (Nat × D)) (env : List (Nat × D)) (orc : List Res) (o : Oper) : Option (D × List Ob × Option (Nat × D) × List Bool × List Req × List Res) :=
  match ws.contains k with
  | true => match o.guard, o.dst, isApp o.op, heapD P HH (chE ch env) o.op with
    | none, some t, true, some (d, H', pid, bs) => bif pidOk H0.length ch pid then some (bif Nat.beq k (lastW ws) then d else .any, H', some (t, d), bs, [], orc) else none
    | _, _, _, _ => none
  | false => match stepDr P ops k (hkA ops ws H0 HH k) env orc o with
    | some (d, bs, rq, orc') => bif mt H0.length d && !((Region.before ops).getD k 0).testBit (lastW ws) then none else some (d, HH, ch, bs, rq, orc')
    | none => none
def runA (P : Program) (nt : Nat) (ops : Array Oper) (ws : List Nat) (H0 : List Ob) : Nat → List Oper → List (Nat × D) → List Ob → Option (Nat × D) → List Res → Option (List (Nat × D) × List Ob × Option (Nat × D) × List Bool × List Req × List Res)
  | _, [], env, HH, ch, orc => some (env, HH, ch, [], [], orc)
  | k, o :: l, env, HH, ch, orc => match stepA P ops ws H0 k HH ch env orc o with
    | some (d, H1, c1, bs, rq, orc1) => match putE nt o.dst d env with
      | some e => match runA P nt ops ws H0 (k + 1) l e H1 c1 orc1 with
        | some (e', H', c', bs', rq', orc') => some (e', H', c', bs ++ bs', rq ++ rq', orc')
        | none => none
      | none => none
    | none => none
structure TraceA (P : Program) (nt : Nat) (ops : Array Oper) (ws : List Nat) (H0 : List Ob) (bs : List Bool) (rq : List Req) (k n : Nat) (E : Nat → List (Nat × D)) (HH : Nat → List Ob) (CH : Nat → Option (Nat × D)) (V : Nat → D) : Prop where
  step : ∀ i, k ≤ i → i < n → ∃ o orc b r orc', ops[i]? = some o ∧ stepA P ops ws H0 i (HH i) (CH i) (E i) orc o = some (V i, HH (i + 1), CH (i + 1), b, r, orc') ∧ (∀ x ∈ b, x ∈ bs) ∧ (∀ x ∈ r, x ∈ rq)
  put : ∀ i, k ≤ i → i < n → ∃ o, ops[i]? = some o ∧ putE nt o.dst (V i) (E i) = some (E (i + 1))
theorem traceA_of {P : Program} {nt : Nat} {ops : Array Oper} {ws : List Nat} {H0 : List Ob} : ∀ (l : List Oper) (k : Nat) (env env' : List (Nat × D)) (H H' : List Ob) (ch ch' : Option (Nat × D)) (orc orc' : List Res) (bs : List Bool) (rq : List Req), (∀ (j : Nat), l[j]? = ops[k + j]? ∨ l.length ≤ j) →
    runA P nt ops ws H0 k l env H ch orc = some (env', H', ch', bs, rq, orc') → ∃ E HH CH V, E k = env ∧ HH k = H ∧ CH k = ch ∧ E (k + l.length) = env' ∧ HH (k + l.length) = H' ∧ CH (k + l.length) = ch' ∧ TraceA P nt ops ws H0 bs rq k (k + l.length) E HH CH V
  | [], k, env, env', H, H', ch, ch', orc, orc', bs, rq, _, h => by
    simp only [runA, Option.some.injEq, Prod.mk.injEq] at h
    obtain ⟨rfl, rfl, rfl, rfl, rfl, rfl⟩ := h
    exact ⟨fun _ => env, fun _ => H, fun _ => ch, fun _ => .any, rfl, rfl, rfl, rfl, rfl, rfl, ⟨fun i h1 h2 => by simp at h2; omega, fun i h1 h2 => by simp at h2; omega⟩⟩
  | o :: l, k, env, env', H, H', ch, ch', orc, orc', bs, rq, hl, h => by
    simp only [runA] at h
    split at h <;> try cases h
    rename_i d H1 c1 b1 r1 orc1 hs
    split at h <;> try cases h
    rename_i e he
    split at h <;> try cases h
    rename_i b2 r2 hr
    have ho : ops[k]? = some o := by
      rcases hl 0 with h1 | h1
      · simpa using h1.symm
      · simp at h1
    obtain ⟨E, HH, CH, V, hE, hH, hC, hE', hH', hC', hT⟩ := traceA_of l (k + 1) e env' H1 H' c1 ch' orc1 orc' b2 r2 (fun j => by
      rcases hl (j + 1) with h1 | h1
      · left; simpa [Nat.add_assoc, Nat.add_comm 1 j] using h1
      · right; simp at h1; exact h1) hr
    have en : k + (o :: l).length = k + 1 + l.length := by simp only [List.length_cons]; omega
    refine ⟨fun i => if i = k then env else E i, fun i => if i = k then H else HH i, fun i => if i = k then ch else CH i, fun i => if i = k then d else V i, by simp, by simp, by simp, ?_, ?_, ?_, ⟨fun i h1 h2 => ?_, fun i h1 h2 => ?_⟩⟩
    · show (if k + (o :: l).length = k then env else E (k + (o :: l).length)) = env'
      rw [if_neg (by simp), en]; exact hE'
    · show (if k + (o :: l).length = k then H else HH (k + (o :: l).length)) = H'
      rw [if_neg (by simp), en]; exact hH'
    · show (if k + (o :: l).length = k then ch else CH (k + (o :: l).length)) = ch'
      rw [if_neg (by simp), en]; exact hC'
    · by_cases hik : i = k
      · subst hik
        simp only [if_true]
        rw [if_neg (by omega), if_neg (by omega), hH, hC]
        exact ⟨o, orc, b1, r1, orc1, ho, hs, fun x hx => List.mem_append_left _ hx, fun x hx => List.mem_append_left _ hx⟩
      · simp only [if_neg hik]
        rw [if_neg (by omega), if_neg (by omega)]
        obtain ⟨o', orc', b, r, orc'', h3, h4, h5, h6⟩ := hT.step i (by omega) (by simp at h2; omega)
        exact ⟨o', orc', b, r, orc'', h3, h4, fun x hx => List.mem_append_right _ (h5 x hx), fun x hx => List.mem_append_right _ (h6 x hx)⟩
    · by_cases hik : i = k
      · subst hik
        simp only [if_true]
        rw [if_neg (by omega)]
        exact ⟨o, ho, by rw [hE]; exact he⟩
      · simp only [if_neg hik]
        rw [if_neg (by omega)]
        exact hT.put i (by omega) (by simp at h2; omega)
section
variable {P : Program} {nt : Nat} {ops : Array Oper} {ws : List Nat} {H0 : List Ob} {bs : List Bool} {rq : List Req} {n : Nat} {E : Nat → List (Nat × D)} {HH : Nat → List Ob} {CH : Nat → Option (Nat × D)} {V : Nat → D}
theorem env_valA (hnd : dstsB ops = true) (hT : TraceA P nt ops ws H0 bs rq 0 n E HH CH V) : ∀ k, k ≤ n → ∀ t, find (E k) t = valL ops V (E 0) (· < k) t
  | 0, _, t => by rw [valL_none]; intro i _ h; omega
  | k + 1, hk, t => by
    have ih := env_valA hnd hT k (by omega) t
    obtain ⟨o, ho, hp⟩ := hT.put k (by omega) (by omega)
    unfold putE at hp
    split at hp
    · rename_i hd
      simp only [Option.some.injEq] at hp
      rw [← hp, ih]
      refine valL_congr hnd fun i hi => ⟨fun h => by omega, fun h => ?_⟩
      rcases Nat.lt_or_ge i k with h1 | h1
      · exact h1
      · have : i = k := by omega
        subst this
        rw [ho] at hi
        simp [hd] at hi
    · rename_i u hd
      cases hlt : Nat.blt u nt with
      | false => rw [hlt] at hp; cases hp
      | true =>
        rw [hlt] at hp
        simp only [cond_true, Option.some.injEq] at hp
        rw [← hp]
        simp only [find]
        have hku : (ops[k]?).bind (·.dst) = some u := by rw [ho]; exact hd
        cases hb : Nat.beq u t with
        | true =>
          obtain rfl := Nat.eq_of_beq_eq_true hb
          simp only [cond_true]
          exact (valL_some hnd hku (Nat.lt_succ_self k)).symm
        | false =>
          simp only [cond_false]
          rw [ih]
          refine valL_congr hnd fun i hi => ⟨fun h => by omega, fun h => ?_⟩
          rcases Nat.lt_or_ge i k with h1 | h1
          · exact h1
          · have : i = k := by omega
            subst this
            rw [hku] at hi
            cases hi
            rw [Nat.beq_refl] at hb; cases hb
theorem chA (hcl : H0.all (cleanO H0.length) = true) (hT : TraceA P nt ops ws H0 bs rq 0 n E HH CH V) (h0 : HH 0 = H0) (hc0 : CH 0 = none) :
    ∀ k, k ≤ n → (CH k = none ∧ HH k = H0) ∨ ∃ t0 m o, CH k = some (t0, .asl H0.length 0 m) ∧ HH k = H0 ++ [o] ∧ ∃ w, w < k ∧ ws.contains w = true ∧ (ops[w]?).bind (·.dst) = some t0
  | 0, _ => .inl ⟨hc0, h0⟩
  | k + 1, hk => by
    have ih := chA hcl hT h0 hc0 k (by omega)
    obtain ⟨o, orc, b, r, orc', ho, hs, _⟩ := hT.step k (Nat.zero_le _) (by omega)
    unfold stepA at hs
    cases hw : ws.contains k with
    | false =>
      rw [hw] at hs
      simp only at hs
      split at hs <;> try cases hs
      rename_i d0 bs0 rq0 orc0 _
      cases hm : (mt H0.length d0 && !((Region.before ops).getD k 0).testBit (lastW ws)) with
      | true => rw [hm] at hs; cases hs
      | false =>
        rw [hm] at hs
        simp only [cond_false, Option.some.injEq, Prod.mk.injEq] at hs
        rw [← hs.2.1, ← hs.2.2.1]
        rcases ih with h | ⟨t0, m, o0, h1, h2, w, h3, h4⟩
        · exact .inl h
        · exact .inr ⟨t0, m, o0, h1, h2, w, by omega, h4⟩
    | true =>
      rw [hw] at hs
      simp only at hs
      split at hs <;> try cases hs
      rename_i t d0 H1 pid bs0 hgd hdst happ hheap
      cases hp : pidOk H0.length (CH k) pid with
      | false => rw [hp] at hs; cases hs
      | true =>
        rw [hp] at hs
        simp only [cond_true, Option.some.injEq, Prod.mk.injEq] at hs
        obtain ⟨_, h2, h3, _⟩ := hs
        obtain ⟨tt, s, x, hap⟩ := heapD_app happ hheap
        rw [← h2, ← h3]
        right
        have hkd : (ops[k]?).bind (·.dst) = some t := by rw [ho]; exact hdst
        rcases ih with ⟨hc, hH⟩ | ⟨t0, m, o0, hc, hH, _⟩
        · rw [hc] at hp
          cases pid with
          | some p => cases hp
          | none =>
            rw [hH] at hap
            obtain ⟨m, o1, rfl, rfl⟩ := appD_new hap
            exact ⟨t, m, o1, rfl, rfl, k, Nat.lt_succ_self k, hw, hkd⟩
        · rw [hc] at hp
          cases pid with
          | none => cases hp
          | some p =>
            rw [hH] at hap
            obtain ⟨m, o1, rfl, rfl⟩ := appD_old hcl (Nat.eq_of_beq_eq_true hp) hap
            exact ⟨t, m, o1, rfl, rfl, k, Nat.lt_succ_self k, hw, hkd⟩
theorem same_chain (hT : TraceA P nt ops ws H0 bs rq 0 n E HH CH V) {p : Nat} : ∀ (m : Nat), p + m ≤ n → (∀ w, p ≤ w → w < p + m → ws.contains w = false) → HH (p + m) = HH p ∧ CH (p + m) = CH p
  | 0, _, _ => ⟨rfl, rfl⟩
  | m + 1, hn, h => by
    have ih := same_chain hT (p := p) m (by omega) fun w h1 h2 => h w h1 (by omega)
    obtain ⟨o, orc, b, r, orc', ho, hs, _⟩ := hT.step (p + m) (Nat.zero_le _) (by omega)
    have hw := h (p + m) (by omega) (by omega)
    unfold stepA at hs
    rw [hw] at hs
    simp only at hs
    split at hs <;> try cases hs
    rename_i d0 bs0 rq0 orc0 _
    cases hm : (mt H0.length d0 && !((Region.before ops).getD (p + m) 0).testBit (lastW ws)) with
    | true => rw [hm] at hs; cases hs
    | false =>
      rw [hm] at hs
      simp only [cond_false, Option.some.injEq, Prod.mk.injEq] at hs
      exact ⟨hs.2.1.symm.trans ih.1, hs.2.2.1.symm.trans ih.2⟩
theorem cleanV (hT : TraceA P nt ops ws H0 bs rq 0 n E HH CH V) : ∀ i, i < n → mt H0.length (V i) = true → i = lastW ws ∨ ((Region.before ops).getD i 0).testBit (lastW ws) = true := by
  intro i hi hmt
  obtain ⟨o, orc, b, r, orc', ho, hs, _⟩ := hT.step i (Nat.zero_le _) hi
  unfold stepA at hs
  cases hw : ws.contains i with
  | false =>
    rw [hw] at hs
    simp only at hs
    split at hs <;> try cases hs
    rename_i d0 bs0 rq0 orc0 _
    cases hm : (mt H0.length d0 && !((Region.before ops).getD i 0).testBit (lastW ws)) with
    | true => rw [hm] at hs; cases hs
    | false =>
      rw [hm] at hs
      simp only [cond_false, Option.some.injEq, Prod.mk.injEq] at hs
      rw [← hs.1] at hmt
      rw [hmt] at hm
      simp only [Bool.true_and, Bool.not_eq_false'] at hm
      exact .inr hm
  | true =>
    rw [hw] at hs
    simp only at hs
    split at hs <;> try cases hs
    rename_i t d0 H1 pid bs0 hgd hdst happ hheap
    cases hp : pidOk H0.length (CH i) pid with
    | false => rw [hp] at hs; cases hs
    | true =>
      rw [hp] at hs
      simp only [cond_true, Option.some.injEq, Prod.mk.injEq] at hs
      cases hl : Nat.beq i (lastW ws) with
      | true => exact .inl (Nat.eq_of_beq_eq_true hl)
      | false =>
        rw [hl] at hs
        rw [← hs.1] at hmt
        cases hmt
end
def cordB (ops : Array Oper) (ws : List Nat) : Bool :=
  let M := Region.before ops
  ws.all fun w => ws.all fun v => !Nat.blt v w || (M.getD w 0).testBit v
theorem cord_spec {ops : Array Oper} {ws : List Nat} (h : cordB ops ws = true) {v w : Nat} (hv : ws.contains v = true) (hw : ws.contains w = true) (hlt : v < w) : ((Region.before ops).getD w 0).testBit v = true := by
  have h1 := List.all_eq_true.1 (List.all_eq_true.1 h w (by simpa using hw)) v (by simpa using hv)
  have : Nat.blt v w = true := Nat.ble_eq_true_of_le hlt
  rw [this] at h1
  simpa using h1
structure AInv (F : Fr) (nt : Nat) (ops : Array Oper) (ws : List Nat) (HH : Nat → List Ob) (CH : Nat → Option (Nat × D)) (V : Nat → D) (env0 : List (Nat × D)) (listed : Array Bool) (a : Act) (c : Ctx) : Prop where
  H : ∃ q, q ≤ ops.size ∧ c.H = HH q ∧ (∀ w, ws.contains w = true → w < q → listed.getD w false = true) ∧ (∀ w, ws.contains w = true → q ≤ w → listed.getD w false = false) ∧
    ∀ t0 d0, CH q = some (t0, d0) → TV c (a.tmps.getD t0 undef) d0
  inv : Inv F c
  env : ∀ t, GV (yielded ops a.tmps) c (a.tmps.getD t undef) (valL ops V env0 (fun i => listed.getD i false = true) t)
  size : a.tmps.size = nt
  defers : a.defers = []
  opt : ∀ t j w d, valL ops V env0 (fun i => listed.getD i false = true) t = .opt j w d → listed.getD j false = true
  lsize : listed.size = ops.size
  closed : ∀ i j, Waits ops i j → listed.getD i false = true → listed.getD j false = true
end Nv
namespace Nv
open Go Go.RowKit
theorem lastW_mem {ws : List Nat} (h : ws ≠ []) : lastW ws ∈ ws := by
  unfold lastW
  rw [List.getLastD_eq_getLast?, List.getLast?_eq_some_getLast h]
  exact List.getLast_mem h
theorem reach_lt {ops : Array Oper} (h : ∀ i o, ops[i]? = some o → ∀ e ∈ o.after, Region.binds .any e = true → e.on < i) {i k : Nat} (r : Reach ops i k) : k < i := by
  have one : ∀ {i k}, Waits ops i k → k < i := fun {i k} ⟨o, ho, e, he, hb, hk⟩ => by rw [← hk]; exact h i o ho e he hb
  induction r with
  | one hw => exact one hw
  | step hw _ ih => exact Nat.lt_trans ih (one hw)
theorem drawA_sound {P : Program} {F : Fr} [GF P F] {nt : Nat} {ops : Array Oper} {ws : List Nat} {H0 : List Ob} {bs : List Bool} {rq : List Req} {E : Nat → List (Nat × D)} {HH : Nat → List Ob} {CH : Nat → Option (Nat × D)} {V : Nat → D} (hfl : flowB ops = true) (hcm : cordB ops ws = true)
    (hcl : H0.all (cleanO H0.length) = true) (hlast : ∀ w ∈ ws, w ≤ lastW ws) (hce : ∀ t, mt H0.length (find (E 0) t) = false) (hT : TraceA P nt ops ws H0 bs rq 0 ops.size E HH CH V) (h00 : HH 0 = H0) (hc0 : CH 0 = none) (hb : ∀ b ∈ bs, b = true) (hq : ∀ q ∈ rq, q.ok P)
    {Q : Exit → Act → World → Prop} (orc : List Res) {tk : Nat} {dk : D} (hck : CH ops.size = some (tk, dk))
    (hQ : ∀ a c, RInv F nt ops ops.size ⟨(tk, dk) :: E ops.size, HH ops.size, orc⟩ a c → Q .normal a c.w) :
    ∀ (fuel : Nat) (listed : Array Bool) (a : Act) (c : Ctx), AInv F nt ops ws HH CH V (E 0) listed a c → cnt listed + fuel = ops.size → wpAny P .any ops Q fuel listed a c.w := by
  simp only [flowB, Bool.and_eq_true, List.all_eq_true] at hfl
  obtain ⟨hnd, hfl⟩ := hfl
  have flow : ∀ i o, ops[i]? = some o → flowAt ops (Region.before ops) i o = true := fun i o ho => by
    have hlt := (Array.getElem?_eq_some_iff.1 ho).1
    refine hfl (o, i) ?_
    rw [List.mem_zipIdx_iff_getElem?]
    simpa using ho
  have hmore : ∀ k, k ≤ ops.size → ∃ X, HH k = H0 ++ X := fun k hk => by
    rcases chA hcl hT h00 hc0 k hk with ⟨_, h⟩ | ⟨_, _, o, _, h, _⟩
    · exact ⟨[], by rw [h, List.append_nil]⟩
    · exact ⟨[o], h⟩
  have fin : ∀ (listed : Array Bool) a c, AInv F nt ops ws HH CH V (E 0) listed a c → (∀ i, i < ops.size → listed.getD i false = true) → Q .normal a c.w := fun listed a c hD hall => by
    have hval : ∀ t, find (E ops.size) t = valL ops V (E 0) (fun i => listed.getD i false = true) t := fun t => by
      rw [env_valA hnd hT ops.size (Nat.le_refl _) t]
      refine valL_congr hnd fun i hi => ⟨fun h => hall i h, fun _ => ?_⟩
      obtain ⟨o, ho, _⟩ := Option.bind_eq_some_iff.1 hi
      exact (Array.getElem?_eq_some_iff.1 ho).1
    obtain ⟨q, hq1, hq2, hq3, hq4, hq5⟩ := hD.H
    have hsc := same_chain hT (p := q) (ops.size - q) (by omega) fun w h1 h2 => by
      cases hw : ws.contains w with
      | false => rfl
      | true =>
        have h3 := hq4 w hw h1
        rw [hall w (by omega)] at h3; cases h3
    rw [show q + (ops.size - q) = ops.size by omega] at hsc
    have htk := hq5 tk dk (hsc.2.symm.trans hck)
    refine hQ a c ⟨hq2.trans hsc.1.symm, hD.inv, fun t => ?_, hD.size, hD.defers, fun t j w d hf => ?_⟩
    · show GV _ _ _ (find ((tk, dk) :: E ops.size) t)
      simp only [find]
      cases hbt : Nat.beq tk t with
      | true => obtain rfl := Nat.eq_of_beq_eq_true hbt; exact gv_of_tv htk
      | false => simp only [cond_false]; rw [hval]; exact hD.env t
    · have hf : find ((tk, dk) :: E ops.size) t = .opt j w d := hf
      simp only [find] at hf
      cases hbt : Nat.beq tk t with
      | true =>
        rw [hbt] at hf
        simp only [cond_true] at hf
        rw [hf] at htk
        simp only [TV, AV] at htk
        exact absurd htk cv_not_opt
      | false =>
        rw [hbt] at hf
        simp only [cond_false] at hf
        rw [hval] at hf
        have := hD.opt t j w d hf
        rcases Nat.lt_or_ge j listed.size with h | h
        · rw [hD.lsize] at h; exact h
        · simp [Array.getElem?_eq_none h] at this
  -- nothing is ready: all are listed
  have stuckAll : ∀ (listed : Array Bool), listed.size = ops.size → Region.ready .any ops listed = [] → ∀ i, i < ops.size → listed.getD i false = true := by
    intro listed hls hr i
    induction i using Nat.strongRecOn with
    | _ i ih =>
      intro hi
      cases hl : listed.getD i false with
      | true => rfl
      | false =>
        exfalso
        have : i ∈ Region.ready .any ops listed := by
          rw [mem_ready]
          refine ⟨by simp [hls, hi] at hl ⊢; exact hl, ops[i], by simp [hi], fun e he hbi => ?_⟩
          have h1 := flow i ops[i] (by simp [hi])
          simp only [flowAt, Bool.and_eq_true] at h1
          have h2 := Array.all_eq_true'.1 h1.1.1 e he
          simp only [hbi, Bool.not_true, Bool.false_or] at h2
          have h3 := blt_true h2
          exact ih e.on h3 (by omega)
        rw [hr] at this
        cases this
  intro fuel
  induction fuel with
  | zero =>
    intro listed a c hD hcnt
    have hall : ∀ i, i < ops.size → listed.getD i false = true := by
      have := cnt_full (listed := listed) (by rw [hD.lsize]; omega)
      rw [hD.lsize] at this
      exact this
    refine ⟨?_, fin listed a c hD hall⟩
    cases hr : Region.ready .any ops listed with
    | nil => rfl
    | cons i r =>
      exfalso
      have : i ∈ Region.ready .any ops listed := by rw [hr]; exact List.mem_cons_self
      obtain ⟨h1, o, ho, _⟩ := mem_ready.1 this
      have hi := (Array.getElem?_eq_some_iff.1 ho).1
      have h2 := hall i hi
      simp [hD.lsize, hi] at h1 h2
      rw [h1] at h2
      cases h2
  | succ fuel ih =>
    intro listed a c hD hcnt
    refine ⟨fun hr => fin listed a c hD (stuckAll listed hD.lsize hr), fun i hi => ?_⟩
    obtain ⟨hun, o, ho, hall⟩ := mem_ready.1 hi
    have hilt := (Array.getElem?_eq_some_iff.1 ho).1
    have hunf : listed.getD i false = false := by simp [hD.lsize, hilt] at hun ⊢; exact hun
    have hwaits : ∀ j, Waits ops i j → listed.getD j false = true := fun j ⟨o', ho', e, he, hbi, hon⟩ => by
      rw [ho] at ho'
      cases ho'
      rw [← hon]
      exact hall e he hbi
    obtain ⟨o', orc0, b, r, orc1, ho', hstep, hb1, hr1⟩ := hT.step i (Nat.zero_le _) hilt
    rw [ho] at ho'
    cases ho'
    have reach : ∀ k l, k < ops.size → ((Region.before ops).getD k 0).testBit l = true → listed.getD k false = true → listed.getD l false = true := fun k l hk hb2 hl =>
      closed_reach hD.closed (before_reach ops k l hk hb2) (fun j hj => hD.closed _ _ hj hl)
    have reachI : ∀ l, ((Region.before ops).getD i 0).testBit l = true → listed.getD l false = true := fun l hb2 => closed_reach hD.closed (before_reach ops i l hilt hb2) hwaits
    have hfa := flow i o ho
    simp only [flowAt, Bool.and_eq_true] at hfa
    obtain ⟨⟨hf1, hf2⟩, hf3⟩ := hfa
    -- what the operation looks at has its value of the text's order
    have same : ∀ t ∈ needs ops o, valL ops V (E 0) (fun i => listed.getD i false = true) t = find (E i) t := fun t ht => by
      rw [env_valA hnd hT i (by omega) t]
      refine valL_congr hnd fun k hk => ?_
      have h1 := List.all_eq_true.1 hf3 t ht
      obtain ⟨ok, hok, hdk⟩ := Option.bind_eq_some_iff.1 hk
      have hklt := (Array.getElem?_eq_some_iff.1 hok).1
      have h2 := List.all_eq_true.1 h1 (ok, k) (by rw [List.mem_zipIdx_iff_getElem?]; simpa using hok)
      simp only [hdk] at h2
      have e1 : Nat.beq t t = true := Nat.beq_refl t
      rw [e1] at h2
      simp only [Bool.not_true, Bool.false_or, Bool.or_eq_true, Bool.and_eq_true] at h2
      rcases h2 with (h2 | ⟨h2, h3⟩) | ⟨h2, h3⟩
      · obtain rfl := Nat.eq_of_beq_eq_true h2
        exact ⟨fun h => (by rw [hunf] at h; cases h), fun h => by omega⟩
      · exact ⟨fun _ => blt_true h2, fun _ => closed_reach hD.closed (before_reach ops i k hilt h3) hwaits⟩
      · have hik := blt_true h2
        refine ⟨fun h => ?_, fun h => by omega⟩
        have := closed_reach hD.closed (before_reach ops k i hklt h3) (fun j hj => hD.closed _ _ hj h)
        rw [hunf] at this
        cases this
    have hops : ∀ x ∈ o.op.operands.toList, GV (yielded ops a.tmps) c (a.eval x) (evD (E i) x) := fun x hx => by
      cases x with
      | tmp t =>
        show GV _ _ _ (find (E i) t)
        rw [← same t (by simp only [needs, List.mem_append, List.mem_filterMap]; exact .inl ⟨.tmp t, hx, rfl⟩)]
        exact hD.env t
      | const v => exact gv_of_tv (tv_dv c v)
      | global g => exact gv_of_tv tv_any
      | func f => exact gv_of_tv ⟨#[], rfl, rfl, fun i v d h1 _ => by simp at h1⟩
    have hgf : GuardFacts ops a c (E i) (gch ops 20 o.guard) := fun p hp t ht => by
      rw [← same t (by simp only [needs, List.mem_append, List.mem_filterMap]; exact .inr ⟨p, hp, ht⟩)]
      exact hD.env t
    have htl : ∀ t, o.dst = some t → t < a.tmps.size := fun t hdt => by
      obtain ⟨o2, ho2, hp⟩ := hT.put i (Nat.zero_le _) hilt
      rw [ho] at ho2
      cases ho2
      rw [hdt] at hp
      simp only [putE] at hp
      cases hlt : Nat.blt t nt with
      | false => simp [hlt] at hp
      | true => rw [hD.size]; exact blt_true hlt
    -- the new state
    have new : ∀ v c', Inv F c' → (∃ q, q ≤ ops.size ∧ c'.H = HH q ∧ (∀ w, ws.contains w = true → w < q → (listed.setIfInBounds i true).getD w false = true) ∧ (∀ w, ws.contains w = true → q ≤ w → (listed.setIfInBounds i true).getD w false = false) ∧
          ∀ t0 d0, CH q = some (t0, d0) → TV c' ((a.put o.dst v).tmps.getD t0 undef) d0) →
        (∀ t, GV (yielded ops a.tmps) c' (a.tmps.getD t undef) (valL ops V (E 0) (fun j => listed.getD j false = true) t)) → (∀ d, V i = d → GV (yielded ops (a.put o.dst v).tmps) c' v d) → (∀ j w d, V i = .opt j w d → listed.getD j false = true) →
        wpAny P .any ops Q fuel (listed.setIfInBounds i true) (a.put o.dst v) c'.w := fun v c' hI' hHn htr hv hvo => by
      have hL : ∀ j, (listed.setIfInBounds i true).getD j false = true ↔ j = i ∨ listed.getD j false = true := fun j => by
        by_cases hji : j = i
        · subst hji; simp [hD.lsize, hilt]
        · rw [getD_set_ne false (Ne.symm hji)]; simp [hji]
      have hvalo : ∀ t, (∀ u, o.dst = some u → u ≠ t) → valL ops V (E 0) (fun j => (listed.setIfInBounds i true).getD j false = true) t = valL ops V (E 0) (fun j => listed.getD j false = true) t := fun t ht => by
        refine valL_congr hnd fun k hk => ?_
        show (listed.setIfInBounds i true).getD k false = true ↔ _
        rw [hL]
        refine ⟨fun h => ?_, .inr⟩
        rcases h with rfl | h
        · rw [ho] at hk
          exact absurd rfl (ht t hk)
        · exact h
      have hyj : ∀ j, listed.getD j false = true → yielded ops (a.put o.dst v).tmps j = yielded ops a.tmps j := fun j hj => yielded_put fun t ht e => by
        have := dsts_spec hnd (show (ops[i]?).bind (·.dst) = some t by rw [ho]; exact ht) e
        subst this
        rw [hunf] at hj
        cases hj
      have keep : ∀ t, GV (yielded ops (a.put o.dst v).tmps) c' (a.tmps.getD t undef) (valL ops V (E 0) (fun j => listed.getD j false = true) t) := fun t => by
        have h1 := htr t
        cases hf : valL ops V (E 0) (fun j => listed.getD j false = true) t <;> rw [hf] at h1 <;> try exact h1
        rename_i j w d
        simp only [GV] at h1 ⊢
        rw [hyj j (hD.opt t j w d hf)]
        exact h1
      refine ih _ _ c' ⟨hHn, hI', fun t => ?_, by rw [size_put]; exact hD.size, by rw [defers_put]; exact hD.defers, fun t j w d hf => ?_, by simp [hD.lsize], fun p q hpq hp => ?_⟩ ?_
      · by_cases hdt : o.dst = some t
        · have hit : (ops[i]?).bind (·.dst) = some t := by rw [ho]; exact hdt
          rw [valL_some hnd hit ((hL i).2 (.inl rfl))]
          have e : (a.put o.dst v).tmps.getD t undef = v := by rw [hdt]; exact getD_put_same (htl t hdt)
          rw [e]
          exact hv _ rfl
        · rw [hvalo t (fun u hu e => hdt (by rw [hu, e])), getD_put hdt]
          exact keep t
      · rw [hL]
        right
        by_cases hdt : o.dst = some t
        · have hit : (ops[i]?).bind (·.dst) = some t := by rw [ho]; exact hdt
          rw [valL_some hnd hit ((hL i).2 (.inl rfl))] at hf
          exact hvo j w d hf
        · rw [hvalo t (fun u hu e => hdt (by rw [hu, e]))] at hf
          exact hD.opt t j w d hf
      · rw [hL] at hp ⊢
        right
        rcases hp with rfl | hp
        · exact hwaits q hpq
        · exact hD.closed p q hpq hp
      · rw [cnt_set (by rw [hD.lsize]; exact hilt) hunf]
        omega
    obtain ⟨q, hq1, hq2, hq3, hq4, hq5⟩ := hD.H
    unfold wpOp
    simp only [ho]
    unfold stepA at hstep
    cases hwr : ws.contains i with
    | true =>
      rw [hwr] at hstep
      simp only at hstep
      split at hstep <;> try cases hstep
      rename_i t d0 H1 pid bs0 hgd hdst happ hheap
      cases hpk : pidOk H0.length (CH i) pid with
      | false => rw [hpk] at hstep; cases hstep
      | true =>
      rw [hpk] at hstep
      simp only [cond_true, Option.some.injEq, Prod.mk.injEq] at hstep
      obtain ⟨hVi, hHi1, hCi1, rfl, rfl, rfl⟩ := hstep
      have hw : Region.wanted o (yielded ops a.tmps) = true := by simp [Region.wanted, hgd]
      simp only [hw, if_true]
      -- the chain stands where the text's order has it
      have hqi : HH q = HH i ∧ CH q = CH i := by
        rcases Nat.lt_or_ge i q with hiq | hiq
        · have := hq3 i hwr hiq
          rw [hunf] at this; cases this
        · have := same_chain hT (p := q) (i - q) (by omega) fun w h1 h2 => by
            cases hw' : ws.contains w with
            | false => rfl
            | true =>
              have h3 := hq4 w hw' h1
              rw [reachI w (cord_spec hcm hw' hwr (by omega))] at h3; cases h3
          rw [show q + (i - q) = i by omega] at this
          exact ⟨this.1.symm, this.2.symm⟩
      have hρ : ∀ x ∈ o.op.operands.toList, TV c (a.eval x) (chE (CH i) (E i) x) := fun x hx => by
        have hu : TV c (a.eval x) (unwrap [] (evD (E i) x)) := unwrap_ok (a := a) (ops := ops) (by simp) (hops x hx)
        unfold chE
        split
        · rename_i t0 d1 t1 hch
          cases hbt : Nat.beq t1 t0 with
          | true =>
            obtain rfl := Nat.eq_of_beq_eq_true hbt
            exact hq5 t1 d1 (hqi.2.trans hch)
          | false => exact hu
        · exact hu
      obtain ⟨v, c', hrun', hI', hH', htr, htv⟩ := heapD_ok (ρc := a.eval) hD.inv hρ (by rw [hq2, hqi.1]; exact hheap) (fun b hb' => hb b (hb1 b hb'))
      have hpu : ∀ e, mt H0.length e = false → purge pid e = e := fun e he => by
        unfold pidOk at hpk
        split at hpk
        · rfl
        · rename_i p _
          obtain rfl := Nat.eq_of_beq_eq_true hpk
          simp only [purge, he, cond_false]
        · cases hpk
      have hA : ∀ w, ws.contains w = true → w < i + 1 → (listed.setIfInBounds i true).getD w false = true := fun w hw' hwq => by
        rcases Nat.lt_or_ge w i with h1 | h1
        · rw [getD_set_ne false (by omega)]
          exact reachI w (cord_spec hcm hw' hwr h1)
        · have : w = i := by omega
          subst this
          simp [hD.lsize, hilt]
      have hB : ∀ w, ws.contains w = true → i + 1 ≤ w → (listed.setIfInBounds i true).getD w false = false := fun w hw' hwq => by
        rw [getD_set_ne false (by omega)]
        cases hl : listed.getD w false with
        | false => rfl
        | true =>
          have hwl : w < ops.size := by
            rcases Nat.lt_or_ge w listed.size with h | h
            · rw [hD.lsize] at h; exact h
            · simp [Array.getElem?_eq_none h] at hl
          rw [reach w i hwl (cord_spec hcm hwr hw' (by omega)) hl] at hunf
          cases hunf
      have hC : ∀ t0 d1, CH (i + 1) = some (t0, d1) → TV c' ((a.put o.dst v).tmps.getD t0 undef) d1 := fun t0 d1 h => by
        rw [← hCi1] at h
        cases h
        have e : (a.put o.dst v).tmps.getD t undef = v := by rw [hdst]; exact getD_put_same (htl t hdst)
        rw [e]
        exact htv
      -- nothing that is there names the slice that grows
      have hlastU : ∀ k, listed.getD k false = true → mt H0.length (V k) = false := fun k hk => by
        cases hmk : mt H0.length (V k) with
        | false => rfl
        | true =>
          exfalso
          have hkl : k < ops.size := by
            rcases Nat.lt_or_ge k listed.size with h | h
            · rw [hD.lsize] at h; exact h
            · simp [Array.getElem?_eq_none h] at hk
          have hll : listed.getD (lastW ws) false = true := by
            rcases cleanV hT k hkl hmk with rfl | h
            · exact hk
            · exact reach k _ hkl h hk
          have hlw : ws.contains (lastW ws) = true := by
            have hne : ws ≠ [] := fun e => by rw [e] at hwr; simp at hwr
            simpa using lastW_mem hne
          rcases Nat.lt_or_ge (lastW ws) i with h1 | h1
          · have hiw : i ∈ ws := by simpa using hwr
            have := hlast i hiw
            omega
          · by_cases e : lastW ws = i
            · rw [e, hunf] at hll; cases hll
            · have hll2 : lastW ws < ops.size := by
                rcases Nat.lt_or_ge (lastW ws) listed.size with h | h
                · rw [hD.lsize] at h; exact h
                · simp [Array.getElem?_eq_none h] at hll
              rw [reach _ i hll2 (cord_spec hcm hwr hlw (by omega)) hll] at hunf
              cases hunf
      have hclean : ∀ t, mt H0.length (valL ops V (E 0) (fun j => listed.getD j false = true) t) = false := fun t => by
        by_cases hx : ∃ k, (ops[k]?).bind (·.dst) = some t ∧ listed.getD k false = true
        · obtain ⟨k, h1, h2⟩ := hx
          rw [valL_some hnd h1 h2]
          exact hlastU k h2
        · rw [valL_none fun k h1 h2 => hx ⟨k, h1, h2⟩]
          exact hce t
      have hkeep : ∀ t, GV (yielded ops a.tmps) c' (a.tmps.getD t undef) (valL ops V (E 0) (fun j => listed.getD j false = true) t) := fun t => by
        have h1 := gv_purge htr (hD.env t)
        rwa [hpu _ (hclean t)] at h1
      have hVv : ∀ d', V i = d' → GV (yielded ops (a.put o.dst v).tmps) c' v d' := fun d' hd' => by
        rw [← hd', ← hVi]
        cases Nat.beq i (lastW ws) with
        | true => exact gv_of_tv htv
        | false => exact gv_of_tv tv_any
      have hVo : ∀ j w d', V i = .opt j w d' → listed.getD j false = true := fun j w d' h => by
        rw [← hVi] at h
        cases hbl : Nat.beq i (lastW ws) with
        | true =>
          rw [hbl] at h
          simp only [cond_true] at h
          rw [h] at htv
          simp only [TV, AV] at htv
          exact absurd htv cv_not_opt
        | false => rw [hbl] at h; cases h
      have hnew := new v c' hI' ⟨i + 1, by omega, hH'.trans hHi1, hA, hB, hC⟩ hkeep hVv hVo
      refine .inl ?_
      unfold Oper.wp
      rcases hrun' with h1 | ⟨h1, rfl⟩
      · rw [h1]; exact hnew
      · rw [h1]; exact hnew
    | false =>
    rw [hwr] at hstep
    simp only at hstep
    split at hstep <;> try cases hstep
    rename_i d0 b0 r0 o0 hstep0
    cases hmt : (mt H0.length d0 && !((Region.before ops).getD i 0).testBit (lastW ws)) with
    | true => rw [hmt] at hstep; cases hstep
    | false =>
    rw [hmt] at hstep
    simp only [cond_false, Option.some.injEq, Prod.mk.injEq] at hstep
    obtain ⟨hV0, _, _, rfl, rfl, rfl⟩ := hstep
    rw [hV0] at hstep0
    have hstep := hstep0
    unfold stepDr at hstep
    split at hstep <;> try cases hstep
    rename_i g hg
    obtain ⟨X, hX⟩ := hmore q hq1
    have hopc : ∀ {x}, opD P (hkA ops ws H0 (HH i) i) ops (E i) (gch ops 20 o.guard) orc0 g o = some x → opD P c.H ops (E i) (gch ops 20 o.guard) orc0 g o = some x := fun {x} h => by
      unfold hkA at h
      cases hbit : ((Region.before ops).getD i 0).testBit (lastW ws) with
      | false => rw [hbit] at h; rw [hq2, hX]; exact opD_more X h
      | true =>
        rw [hbit] at h
        simp only [cond_true] at h
        have hll := reachI _ hbit
        have hli : lastW ws < i := reach_lt (fun i o ho e he hbi => by
          have h1 := flow i o ho
          simp only [flowAt, Bool.and_eq_true] at h1
          have h2 := Array.all_eq_true'.1 h1.1.1 e he
          simp only [hbi, Bool.not_true, Bool.false_or] at h2
          exact blt_true h2) (before_reach ops i _ hilt hbit)
        have e1 := same_chain hT (p := i) (ops.size - i) (by omega) fun w h1 h2 => by
          cases hw' : ws.contains w with
          | false => rfl
          | true => have := hlast w (by simpa using hw'); omega
        have e2 := same_chain hT (p := q) (ops.size - q) (by omega) fun w h1 h2 => by
          cases hw' : ws.contains w with
          | false => rfl
          | true =>
            have h3 := hq4 w hw' h1
            have h4 := hlast w (by simpa using hw')
            have hne : ws ≠ [] := fun e => by rw [e] at hw'; simp at hw'
            have hlw : ws.contains (lastW ws) = true := by simpa using lastW_mem hne
            have h5 : listed.getD w false = true := by
              by_cases e : w = lastW ws
              · rw [e]; exact hll
              · exact reach _ w (by omega) (cord_spec hcm hw' hlw (by omega)) hll
            rw [h5] at h3; cases h3
        rw [show i + (ops.size - i) = ops.size by omega] at e1
        rw [show q + (ops.size - q) = ops.size by omega] at e2
        rw [hq2, ← e2.1, e1.1]
        exact h
    -- what is not an append leaves the chain where it is
    have newH : ∀ v c', Goes c c' → ∃ q, q ≤ ops.size ∧ c'.H = HH q ∧ (∀ w, ws.contains w = true → w < q → (listed.setIfInBounds i true).getD w false = true) ∧ (∀ w, ws.contains w = true → q ≤ w → (listed.setIfInBounds i true).getD w false = false) ∧
          ∀ t0 d0, CH q = some (t0, d0) → TV c' ((a.put o.dst v).tmps.getD t0 undef) d0 := fun v c' hgo => by
      have hne : ∀ w, ws.contains w = true → i ≠ w := fun w hw e => by subst e; rw [hwr] at hw; cases hw
      refine ⟨q, hq1, hgo.H.trans hq2, fun w hw hwq => by rw [getD_set_ne false (hne w hw)]; exact hq3 w hw hwq, fun w hw hwq => by rw [getD_set_ne false (hne w hw)]; exact hq4 w hw hwq, fun t0 d1 h => ?_⟩
      have hdt : o.dst ≠ some t0 := fun hd => by
        rcases chA hcl hT h00 hc0 q hq1 with ⟨h1, _⟩ | ⟨t1, m, o1, h1, _, w, _, hw1, hw2⟩
        · rw [h1] at h; cases h
        · rw [h1] at h
          cases h
          have := dsts_spec hnd (show (ops[i]?).bind (·.dst) = some t0 by rw [ho]; exact hd) hw2
          exact hne w hw1 this
      rw [getD_put hdt]
      exact hgo.tv (hq5 t0 d1 h)
    split at hstep
    · rename_i d bs0 rq0 orc2 j want hop hgd
      cases hlt : Nat.blt j i with
      | false => simp [hlt] at hstep
      | true =>
        simp only [hlt, cond_true, Option.some.injEq, Prod.mk.injEq] at hstep
        obtain ⟨hV, rfl, rfl, rfl⟩ := hstep
        have hji := blt_true hlt
        have hyj : ∀ v, yielded ops (a.put o.dst v).tmps j = yielded ops a.tmps j := fun v => yielded_put fun t ht e => by
          have := dsts_spec hnd (show (ops[i]?).bind (·.dst) = some t by rw [ho]; exact ht) e
          omega
        have hjl : listed.getD j false = true := by
          rw [hgd] at hf2
          simp only at hf2
          obtain ⟨e, he, h1⟩ := Array.any_eq_true'.1 hf2
          simp only [Bool.and_eq_true] at h1
          rw [← Nat.eq_of_beq_eq_true h1.2]
          exact hall e he h1.1
        have hwant : Region.wanted o (yielded ops a.tmps) = (yielded ops a.tmps j == some want) := by simp [Region.wanted, hgd]
        have hvo : ∀ j' w d', V i = .opt j' w d' → listed.getD j' false = true := fun j' w d' h => by rw [← hV] at h; cases h; exact hjl
        cases hw : Region.wanted o (yielded ops a.tmps) with
        | true =>
          simp only [if_true]
          refine .inl (op_sound hD.inv hops hgf hg hw (hopc hop) (fun b hb' => hb b (hb1 b hb')) (fun q hq' => hq q (hr1 q hq')) fun v c' hI' haf => ?_)
          obtain ⟨hgo, _, htv⟩ := haf
          refine new v c' hI' (newH v c' hgo) (fun t => hgo.gv (hD.env t)) (fun d' hd' => ?_) hvo
          rw [← hd', ← hV]
          refine .inl ⟨?_, htv⟩
          rw [hyj]
          rw [hw] at hwant
          simpa using hwant.symm
        | false =>
          simp only [Bool.false_eq_true, if_false]
          refine new undef c hD.inv (newH undef c (Goes.refl hD.inv)) hD.env (fun d' hd' => ?_) hvo
          rw [← hd', ← hV]
          refine .inr ⟨?_, rfl⟩
          rw [hyj]
          rw [hw] at hwant
          simpa using hwant.symm
    · rename_i d bs0 rq0 orc2 hop hgd
      simp only [Option.some.injEq, Prod.mk.injEq] at hstep
      obtain ⟨hV, rfl, rfl, rfl⟩ := hstep
      have hw : Region.wanted o (yielded ops a.tmps) = true := by simp [Region.wanted, hgd]
      simp only [hw, if_true]
      refine .inl (op_sound hD.inv hops hgf hg hw (hopc hop) (fun b hb' => hb b (hb1 b hb')) (fun q hq' => hq q (hr1 q hq')) fun v c' hI' haf => ?_)
      obtain ⟨hgo, _, htv⟩ := haf
      refine new v c' hI' (newH v c' hgo) (fun t => hgo.gv (hD.env t)) (fun d' hd' => ?_) (fun j w d' h => ?_)
      · rw [← hd', ← hV]; exact gv_of_tv htv
      · rw [← hV] at h
        subst h
        simp only [TV, AV] at htv
        exact absurd htv cv_not_opt
    · cases hstep
def regA (P : Program) (ops : Array Oper) (ws : List Nat) (orc : List Res) (keep : List Nat) (hn : Nat) (s : St) : Option (St × List Bool × List Req) :=
  bif flowB ops && P.follows .mixedOrders && cordB ops ws && s.H.all (cleanO s.H.length) && s.env.all (fun p => !mt s.H.length p.2) && ws.all (fun w => Nat.ble w (lastW ws)) then
    (match runA P s.nt ops ws s.H 0 ops.toList s.env s.H none orc with
    | some (env', H', some (t, d), bs, rq, _) => (cutS hn ⟨s.nt, fin ((t, d) :: env') keep, H'⟩).map fun s' => (s', bs, rq)
    | _ => none) else none
theorem find_clean {id : Nat} : ∀ {env : List (Nat × D)}, env.all (fun p => !mt id p.2) = true → ∀ t, mt id (find env t) = false
  | [], _, _ => rfl
  | (u, d) :: env, h, t => by
    simp only [List.all_cons, Bool.and_eq_true, Bool.not_eq_true'] at h
    simp only [find]
    cases Nat.beq u t with
    | true => exact h.1
    | false => exact find_clean h.2 t
theorem awp_regionA {P : Program} {Q : Exit → St → Prop} {s : St} {id : Nat} {ops : Array Oper} (ws : List Nat) (orc : List Res) (keep : List Nat) (hn : Nat) {s' : St} {bs : List Bool} {rq : List Req}
    (h : regA P ops ws orc keep hn s = some (s', bs, rq)) (hb : ∀ b ∈ bs, b = true) (hq : ∀ q ∈ rq, q.ok P) (k : Q .normal s') : AWP P (.region id ops true) Q s := by
  rintro F a w hG ⟨c, rfl, hH, hI, henv, hsz, hd⟩
  unfold regA at h
  cases hc : (flowB ops && P.follows .mixedOrders && cordB ops ws && s.H.all (cleanO s.H.length) && s.env.all (fun p => !mt s.H.length p.2) && ws.all (fun w => Nat.ble w (lastW ws))) with
  | false => rw [hc] at h; cases h
  | true =>
    rw [hc] at h
    simp only [cond_true] at h
    simp only [Bool.and_eq_true] at hc
    obtain ⟨⟨⟨⟨⟨hc1, hc2⟩, hc3⟩, hc4⟩, hc5⟩, hc6⟩ := hc
    split at h <;> try cases h
    rename_i env' H' t d bs0 rq0 orc0 hrun
    obtain ⟨s1, hcut, heq⟩ := Option.map_eq_some_iff.1 h
    simp only [Prod.mk.injEq] at heq
    obtain ⟨rfl, rfl, rfl⟩ := heq
    refine wp_region_any hc2 ?_
    obtain ⟨E, HH, CH, V, hE0, hH0, hC0, hE1, hH1, hC1, hT⟩ := traceA_of ops.toList 0 s.env env' s.H H' none (some (t, d)) orc orc0 bs0 rq0 (fun j => .inl (by simp)) hrun
    simp only [Array.length_toList, Nat.zero_add] at hE1 hH1 hC1 hT
    let c' : Ctx := { c with w := c.w.drew }
    have hgo : Goes c c' := ⟨rfl, rfl, fun _ h => h, fun _ _ => rfl, fun b hb => (hI.imm b hb).1, fun id b hb => (hI.loc id b hb).2.1⟩
    have hI' : Inv F c' := hI.goes hgo (Bw.refl _ _).drew (fun _ h => .inl h)
    have hnone : ∀ i, ¬ (Array.replicate ops.size false).getD i false = true := fun i h => by rw [getD_rep_false] at h; cases h
    have hval : ∀ t, valL ops V (E 0) (fun i => (Array.replicate ops.size false).getD i false = true) t = find s.env t := fun t => by rw [valL_none (fun i _ => hnone i), hE0]
    have hD : AInv F s.nt ops ws HH CH V (E 0) (Array.replicate ops.size false) a c' := by
      refine ⟨⟨0, Nat.zero_le _, hH.trans hH0.symm, fun w _ h => by omega, fun w _ _ => by rw [getD_rep_false], fun t0 d0 h => by rw [hC0] at h; cases h⟩, hI', fun t => ?_, hsz, hd, fun t j w d hf => ?_, by simp, fun i j _ h => absurd h (hnone i)⟩
      · rw [hval]; exact gv_of_tv (hgo.tv (henv t))
      · rw [hval] at hf
        have := henv t
        rw [hf] at this
        simp only [TV, AV] at this
        exact absurd this cv_not_opt
    refine drawA_sound (H0 := s.H) hc1 hc3 hc4 (fun w hw => Nat.le_of_ble_eq_true (List.all_eq_true.1 hc6 w hw)) (by rw [hE0]; exact find_clean hc5) hT hH0 hC0 hb hq [] hC1 (fun a' c'' hR => ⟨s1, k, ?_⟩) ops.size _ a c' hD (by simp [cnt, List.countP_replicate])
    have hR' := rinv_fin hR keep
    simp only [hE1, hH1] at hR'
    exact le_cut hcut F a' c''.w hR'
theorem rga {P : Program} {Q : Exit → St → Prop} {s : St} {id : Nat} {ops : Array Oper} (ws : List Nat) (orc : List Res) (keep : List Nat) (hn : Nat) (s' : St) (bs : List Bool) (rq : List Req)
    (hb : ∀ b ∈ bs, b = true) (hq : Reqs P rq) (k : Q .normal s') (h : regA P ops ws orc keep hn s = some (s', bs, rq) := by kernel_rfl) : AWP P (.region id ops true) Q s := awp_regionA ws orc keep hn h hb hq.all k
end Nv
namespace Nv
open Go Go.RowKit
section
variable {α : Type} [Inhabited α] (c : α → List D)
theorem app_any {l m : List α} {n k : Nat} {f g : Nat → List D} (hn : n = l.length) (hf : ∀ i, i < n → f i = c (l.getD i default)) (hk : k = m.length) (hg : ∀ i, i < k → g i = c (m.getD i default)) :
    ∀ i, i < n + k → app f n g i = c ((l ++ m).getD i default) := by
  subst hn
  subst hk
  intro i hi
  rw [← app_list c l m g hg i hi]
  unfold app
  cases hlt : Nat.blt i l.length with
  | true => have h := blt_true hlt; simp only [cond_true]; exact hf i h
  | false => rfl
theorem acut_ext (l : List α) (lo hi : Nat) : ∀ i, i < hi - lo → c (l.getD (0 + lo + i) default) = c (((l.drop lo).take (hi - lo)).getD i default) := by
  intro i h
  rw [Nat.zero_add]
  exact cut_ext c l lo hi i h
theorem one_ext {x : α} {g : Nat → List D} (hg : g 0 = c x) : ∀ i, i < 1 → g i = c (([x] : List α).getD i default) := by
  intro i hi
  obtain rfl : i = 0 := by omega
  simpa using hg
end
theorem len_any {α : Type} {l m : List α} {n k : Nat} (hn : n = l.length) (hk : k = m.length) : n + k = (l ++ m).length := by simp [hn, hk]
def rnC (i0 i1 : Nat) : D → D
  | .asl i o n => .asl (bif Nat.beq i i1 then i0 else i) o n
  | .eref i k o => .eref (bif Nat.beq i i1 then i0 else i) k o
  | .ref i o => .ref (bif Nat.beq i i1 then i0 else i) o
  | d => d
def rnT (i0 i1 : Nat) : D → D
  | .agg cs => .agg (cs.map (rnC i0 i1))
  | .fn f cap => .fn f (cap.map (rnC i0 i1))
  | .tup _ => .any
  | .opt _ _ _ => .any
  | d => rnC i0 i1 d
def clB (id : Nat) : Ob → Bool
  | .box cells => cells.all fun d => !mc id d
  | _ => true
def rnO (i0 i1 : Nat) : Ob → Ob
  | .box cells => .box (cells.map (rnC i0 i1))
  | o => o
def ngB : Ob → Bool
  | .gone => false
  | _ => true
def rnS (i0 i1 : Nat) (s : St) : Option St :=
  bif Nat.beq (i1 + 1) s.H.length && Nat.blt i0 i1 && s.env.all (fun p => !mt i0 p.2) && s.H.all (clB i0) && (s.H.drop i0).all ngB then
    match s.H[i1]? with
    | some o => some ⟨s.nt, s.env.map fun p => (p.1, rnT i0 i1 p.2), ((s.H.take i1).set i0 o).map (rnO i0 i1)⟩
    | none => none
  else none
def Ctx.mv (c : Ctx) (i0 i1 : Nat) (o : Ob) : Ctx :=
  { I := c.I, mu := fun i => if i = i0 then c.mu i1 else if i = i1 then none else c.mu i, H := ((c.H.take i1).set i0 o).map (rnO i0 i1), w := c.w }
theorem find_rnT (i0 i1 : Nat) : ∀ (env : List (Nat × D)) (t : Nat), find (env.map fun p => (p.1, rnT i0 i1 p.2)) t = rnT i0 i1 (find env t)
  | [], t => rfl
  | p :: e, t => by
    simp only [List.map_cons, find]
    cases Nat.beq p.1 t with
    | true => rfl
    | false => exact find_rnT i0 i1 e t
section
variable {F : Fr} {c : Ctx} {i0 i1 : Nat} {o : Ob}
theorem mv_H0 (hlt : i0 < i1) (hl : i1 + 1 = c.H.length) : (c.mv i0 i1 o).H[i0]? = some (rnO i0 i1 o) := by
  simp only [Ctx.mv, List.getElem?_map]
  rw [List.getElem?_set_self (by simp; omega)]
  rfl
theorem mv_H {i : Nat} (h0 : i ≠ i0) (h1 : i ≠ i1) (hl : i1 + 1 = c.H.length) {q : Ob} (h : c.H[i]? = some q) : (c.mv i0 i1 o).H[i]? = some (rnO i0 i1 q) := by
  have hlt := (List.getElem?_eq_some_iff.1 h).1
  simp only [Ctx.mv, List.getElem?_map, List.getElem?_set_ne (Ne.symm h0)]
  rw [List.getElem?_take_of_lt (by omega), h]
  rfl
theorem mv_cv (hlt : i0 < i1) (hl : i1 + 1 = c.H.length) (ho : c.H[i1]? = some o) {v : Value} {d : D} (h : CV c v d) (hm : mc i0 d = false) : CV (c.mv i0 i1 o) v (rnC i0 i1 d) := by
  cases d <;> simp only [rnC, CV] at h ⊢ <;> try exact h
  · rename_i i off
    have hne : i ≠ i0 := Nat.ne_of_beq_eq_false hm
    obtain ⟨b, hb, hv⟩ := h
    cases hb1 : Nat.beq i i1 with
    | true => obtain rfl := Nat.eq_of_beq_eq_true hb1; exact ⟨b, by simp [Ctx.mv, hb], hv⟩
    | false => have := Nat.ne_of_beq_eq_false hb1; exact ⟨b, by simp [Ctx.mv, hne, this, hb], hv⟩
  · rename_i i j off
    have hne : i ≠ i0 := Nat.ne_of_beq_eq_false hm
    obtain ⟨b, wd1, n1, f1, hb, hH, hi, hv⟩ := h
    cases hb1 : Nat.beq i i1 with
    | true =>
      obtain rfl := Nat.eq_of_beq_eq_true hb1
      rw [ho] at hH; cases hH
      exact ⟨b, wd1, n1, f1, by simp [Ctx.mv, hb], mv_H0 hlt hl, hi, hv⟩
    | false => have := Nat.ne_of_beq_eq_false hb1; exact ⟨b, wd1, n1, f1, by simp [Ctx.mv, hne, this, hb], mv_H hne this hl hH, hi, hv⟩
  · rename_i i off len
    have hne : i ≠ i0 := Nat.ne_of_beq_eq_false hm
    obtain ⟨wd1, n1, f1, a, cap, hH, h2, h3, h4, h5⟩ := h
    cases hb1 : Nat.beq i i1 with
    | true =>
      obtain rfl := Nat.eq_of_beq_eq_true hb1
      rw [ho] at hH; cases hH
      refine ⟨wd1, n1, f1, a, cap, mv_H0 hlt hl, h2, h3, h4, h5.imp (fun x => x) ?_⟩
      rintro ⟨b, hb, ha, hr⟩
      exact ⟨b, by simp [Ctx.mv, hb], ha, hr⟩
    | false =>
      have := Nat.ne_of_beq_eq_false hb1
      refine ⟨wd1, n1, f1, a, cap, mv_H hne this hl hH, h2, h3, h4, h5.imp (fun x => x) ?_⟩
      rintro ⟨b, hb, ha, hr⟩
      exact ⟨b, by simp [Ctx.mv, hne, this, hb], ha, hr⟩
theorem mv_vs (hlt : i0 < i1) (hl : i1 + 1 = c.H.length) (ho : c.H[i1]? = some o) {vs : Array Value} {ds : List D} (h : Vs (CV c) vs ds) (hm : ds.any (mc i0) = false) : Vs (CV (c.mv i0 i1 o)) vs (ds.map (rnC i0 i1)) := by
  refine ⟨by simp [h.1], fun i v d h1 h2 => ?_⟩
  rw [List.getElem?_map] at h2
  obtain ⟨e, he, rfl⟩ := Option.map_eq_some_iff.1 h2
  exact mv_cv hlt hl ho (h.2 i v e h1 he) (by
    cases hq : mc i0 e with
    | false => rfl
    | true => rw [List.any_eq_true.2 ⟨e, List.mem_of_getElem? he, hq⟩] at hm; cases hm)
theorem mv_tv (hlt : i0 < i1) (hl : i1 + 1 = c.H.length) (ho : c.H[i1]? = some o) {v : Value} {d : D} (h : TV c v d) (hm : mt i0 d = false) : TV (c.mv i0 i1 o) v (rnT i0 i1 d) := by
  cases d with
  | agg cs => obtain ⟨vs, h1, h2⟩ := h; exact ⟨vs, h1, mv_vs hlt hl ho h2 hm⟩
  | fn f cap => obtain ⟨vs, h1, h2⟩ := h; exact ⟨vs, h1, mv_vs hlt hl ho h2 hm⟩
  | tup ds => exact tv_any
  | opt j w d => exact tv_any
  | asl i off len => simp only [TV, AV] at h; have := mv_cv hlt hl ho h hm; simpa only [TV, AV, rnT, rnC] using this
  | eref i j off => simp only [TV, AV] at h; have := mv_cv hlt hl ho h hm; simpa only [TV, AV, rnT, rnC] using this
  | ref i off => simp only [TV, AV] at h; have := mv_cv hlt hl ho h hm; simpa only [TV, AV, rnT, rnC] using this
  | _ => simp only [TV, AV] at h; have := mv_cv hlt hl ho h hm; simpa only [TV, AV, rnT, rnC] using this
theorem mv_ov (hlt : i0 < i1) (hl : i1 + 1 = c.H.length) (ho : c.H[i1]? = some o) {b? : Option Nat} {q : Ob} (h : OV c b? q) (hc : clB i0 q = true) : OV (c.mv i0 i1 o) b? (rnO i0 i1 q) := by
  cases q with
  | box cells =>
    simp only [OV, rnO] at h ⊢
    obtain ⟨b, cs, T, h1, h2, h3⟩ := h
    refine ⟨b, cs, T, h1, h2, mv_vs hlt hl ho h3 ?_⟩
    simp only [clB, List.all_eq_true, Bool.not_eq_true'] at hc
    rw [Bool.eq_false_iff]
    intro hx
    obtain ⟨d, h4, h5⟩ := List.any_eq_true.1 hx
    rw [hc d h4] at h5; cases h5
  | arr wd n f => exact h
  | gone => exact h
end
theorem find_cl {id : Nat} : ∀ {env : List (Nat × D)}, env.all (fun p => !mt id p.2) = true → ∀ t, mt id (find env t) = false
  | [], _, _ => rfl
  | (u, d) :: env, h, t => by
    simp only [List.all_cons, Bool.and_eq_true, Bool.not_eq_true'] at h
    simp only [find]
    cases Nat.beq u t with
    | true => exact h.1
    | false => exact find_cl h.2 t
theorem le_mv {s s' : St} (i0 i1 : Nat) (h : rnS i0 i1 s = some s') : Le s s' := by
  rintro F a w ⟨c, rfl, hH, hI, henv, hsz, hd⟩
  unfold rnS at h
  cases hc : (Nat.beq (i1 + 1) s.H.length && Nat.blt i0 i1 && s.env.all (fun p => !mt i0 p.2) && s.H.all (clB i0) && (s.H.drop i0).all ngB) with
  | false => rw [hc] at h; cases h
  | true =>
    rw [hc] at h
    simp only [Bool.and_eq_true] at hc
    obtain ⟨⟨⟨⟨e1, e2⟩, e3⟩, e4⟩, e5⟩ := hc
    simp only [cond_true] at h
    split at h <;> try cases h
    rename_i o ho
    have hl : i1 + 1 = c.H.length := by rw [hH]; exact Nat.eq_of_beq_eq_true e1
    have hlt : i0 < i1 := blt_true e2
    rw [← hH] at ho e4 e5
    have hcl : ∀ q ∈ c.H, clB i0 q = true := List.all_eq_true.1 e4
    have hng : F.L ≠ [] → F.L.length < i0 := fun hne => by
      have hm := hI.mark hne
      rcases Nat.lt_or_ge F.L.length i0 with h | h
      · exact h
      · have : c.H[F.L.length]? = (c.H.drop i0)[F.L.length - i0]? := by rw [List.getElem?_drop]; congr 1; omega
        rw [hm] at this
        have := List.all_eq_true.1 e5 _ (List.mem_of_getElem? this.symm)
        cases this
    refine ⟨c.mv i0 i1 o, rfl, by simp only [Ctx.mv]; rw [hH], ⟨hI.below, hI.imm, fun id b hb => ?_, fun i j b hi hj => ?_, fun id q hq => ?_, fun id hid => ?_, fun i v hv => ?_, fun hne => ?_⟩, fun t => ?_, hsz, hd⟩
    · simp only [Ctx.mv] at hb
      split at hb
      · exact hI.loc i1 b hb
      · split at hb
        · cases hb
        · exact hI.loc id b hb
    · simp only [Ctx.mv] at hi hj
      split at hi <;> split at hj
      · rename_i x y; rw [x, y]
      · split at hj
        · cases hj
        · rename_i x y z; exact absurd (hI.inj j i1 b hj hi) z
      · split at hi
        · cases hi
        · rename_i x y z; exact absurd (hI.inj i i1 b hi hj) z
      · split at hi
        · cases hi
        · split at hj
          · cases hj
          · exact hI.inj i j b hi hj
    · by_cases h0 : id = i0
      · subst h0
        rw [mv_H0 hlt hl] at hq
        cases hq
        have := mv_ov hlt hl ho (hI.obj i1 o ho) (hcl o (List.mem_of_getElem? ho))
        simpa [Ctx.mv] using this
      · by_cases h1 : id = i1
        · subst h1
          have : (c.mv i0 id o).H.length = id := by simp [Ctx.mv]; omega
          have := (List.getElem?_eq_some_iff.1 hq).1
          omega
        · have hlen : (c.mv i0 i1 o).H.length = i1 := by simp [Ctx.mv]; omega
          have hid := (List.getElem?_eq_some_iff.1 hq).1
          obtain ⟨q', hq'⟩ : ∃ q', c.H[id]? = some q' := ⟨c.H[id]'(by omega), by simp⟩
          rw [mv_H h0 h1 hl hq'] at hq
          cases hq
          have := mv_ov hlt hl ho (hI.obj id q' hq') (hcl q' (List.mem_of_getElem? hq'))
          simpa [Ctx.mv, h0, h1] using this
    · have hlen : (c.mv i0 i1 o).H.length = i1 := by simp [Ctx.mv]; omega
      rw [hlen] at hid
      simp only [Ctx.mv]
      rw [if_neg (by omega)]
      split
      · rfl
      · exact hI.dom id (by omega)
    · have hi := (List.getElem?_eq_some_iff.1 hv).1
      have hn := hng (by intro e; rw [e] at hi; simp at hi)
      simp only [Ctx.mv]
      rw [if_neg (by omega), if_neg (by omega)]
      exact hI.lent i v hv
    · have hn := hng hne
      have := mv_H (o := o) (i0 := i0) (i1 := i1) (by omega) (by omega) hl (hI.mark hne)
      exact this
    · show TV _ _ (find (s.env.map fun p => (p.1, rnT i0 i1 p.2)) t)
      rw [find_rnT]
      exact mv_tv hlt hl ho (henv t) (find_cl e3 t)
end Nv
namespace Nv
open Go Go.RowKit Go.Shelf Go.Sort Go.Proofs
def encD : D → Value
  | .int k n => .int k n
  | .bool b => .bool b
  | .str s => .string s
  | _ => undef
def scB : D → Bool
  | .int _ _ | .bool _ | .str _ => true
  | _ => false
theorem encD_one {d : D} (h : scB d = true) : (encD d).oneCell' = true := by cases d <;> first | rfl | cases h
theorem encD_pv {d : D} (h : scB d = true) (I : Nat → Prop) (w : World) : PV I w (encD d) d := by cases d <;> first | exact .int _ _ | exact .bool _ | exact .str _ | cases h
theorem encD_inv {d : D} (h : scB d = true) {I : Nat → Prop} {w : World} {u : Value} (k : PV I w u d) : u = encD d := by
  cases d <;> first | (cases k; rfl) | cases h
def sortP {T : Type} [Inhabited T] (cf : T → T → Int) (l : List T) : List T := (pdq (ltOf cf) l.toArray 0 l.length (Lib.bitLen l.length) true true).toList
section
variable {T : Type} [Inhabited T] {cf : T → T → Int}
theorem get_toList (a : Array T) (q : Nat) (h : q < a.size) : a[q]! = a.toList.getD q default := by
  rw [getElem!_pos a q h]; simp [h]
theorem sortP_ok (hO : SWO (ltOf cf)) (l : List T) : (sortP cf l).length = l.length ∧ (sortP cf l).Perm l ∧ (sortP cf l).Pairwise (fun x y => ltOf cf y x = false) := by
  have h := pdq_sorts (ltOf cf) hO l.toArray 0 l.length (Lib.bitLen l.length) true true (Nat.zero_le _) (by simp) (Or.inl rfl)
  obtain ⟨⟨h1, _, h3⟩, h4⟩ := h
  have hsz : (sortP cf l).length = l.length := by unfold sortP; simpa using h1
  refine ⟨hsz, ?_, ?_⟩
  · unfold sortP
    have q1 : ∀ (a : Array T), a.size = l.length → a.extract 0 l.length = a := fun a ha => by rw [← ha]; simp
    rw [q1 _ (by simpa using h1), q1 _ (by simp)] at h3
    simpa using h3
  · rw [List.pairwise_iff_getElem]
    intro i j hi hj hij
    have := h4 i j (Nat.zero_le _) hij (by rw [← hsz]; exact hj)
    unfold sortP at hi hj ⊢
    simp only [Array.length_toList] at hi hj
    rw [getElem!_pos _ j hj, getElem!_pos _ i hi] at this
    simpa using this
theorem gt_sort {P : Program} {enc : T → List Value} {k : Nat} {w : World} {b off m : Nat} {d : Array T} {os : Array Obj} (h : GT P w) (hb : ∀ g, tabG P g = true → b ≠ g) : GT P (sortWorldK enc k w b off m d os) :=
  h.of_block fun g hg => by
    have hlt := h.lt hg
    have hne := hb g hg
    simp only [sortWorldK, grow, putRowK, putRow, mapBlock, Go.Sort.ahead]
    rw [Array.getElem?_append_left (by simpa using hlt), Array.getElem?_modify, if_neg hne]
theorem grow_of_bw {w w' : World} (h : Bw w.heap.size w w') : ∃ q os, w' = grow (w.drewN q) os := by
  obtain ⟨p, hp⟩ := regrown_of_below h.toBelow
  refine ⟨w'.drawn - w.drawn, p.os, ?_⟩
  have hd := h.drawn
  have e : w'.drawn = p.d := by rw [hp]; rfl
  have : w.drewN (w'.drawn - w.drawn) = redrawn w p.d := by
    unfold World.drewN redrawn
    rw [← e, show w.drawn + (w'.drawn - w.drawn) = w'.drawn by omega]
  rw [this]; exact hp
theorem sortF {P : Program} {ρ : Ren} (L : SlLaysF0.n6 P ρ) (k : Nat) (aE : ∀ w, (isAgg (ρ.t 24)).run P w = .ok true w) (zE : ∀ w, (Go.sizeOf (ρ.t 24)).run P w = .ok k w) (c : T → List D) (hk : ∀ x, (c x).length = k) (hs : ∀ x, (c x).all scB = true)
    (hO : SWO (ltOf cf)) (g : Nat) (eg : ∀ args w, (callFunc g args).run P w = .ok (.enter g args) w) (hF : ∀ x y, Fn P g [.agg (c x), .agg (c y)] (.pure (.int .i64 (cf x y)))) (l : List T) (hl : l.length < 4611686018427387904) (hne : 0 < l.length) :
    FnM P (ρ.f 6) [.asl 0 0 l.length, .fn g []] k l.length (fun i => c (l.getD i default)) (fun i => c ((sortP cf l).getD i default)) (.tup []) := by
  intro I0 w m vs hGT hgm hI0 hm hov hvs
  -- the arguments
  have hsz : vs.size = 2 := hvs.1
  have hv0 := hvs.2 0 vs[0] (.asl 0 0 l.length) (by simp [hsz]) rfl
  have hv1 := hvs.2 1 vs[1] (.fn g []) (by simp [hsz]) rfl
  simp only [AV, CV] at hv0
  obtain ⟨wd1, n1, f1, a, cap, hH, hle, hv0, hcap, hor⟩ := hv0
  simp only [Lctx, List.getElem?_cons_zero, Option.some.injEq, Ob.arr.injEq] at hH
  obtain ⟨rfl, rfl, rfl⟩ := hH
  obtain ⟨cb, hv1, hcb⟩ := hv1
  have hcb0 : cb = #[] := by
    have := hcb.1
    simp at this
    exact this
  subst hcb0
  rcases hor with h0 | ⟨b, hmu, rfl, hroom⟩
  · omega
  simp only [Lctx, if_true] at hmu
  subst hmu
  have hvs' : vs = #[.slice (some ⟨b, 0, none⟩) l.length cap, .func (.func g) #[] #[]] := by
    apply Array.ext (by simp [hsz])
    intro i h1 h2
    rcases i with _ | _ | i
    · simpa using hv0
    · simpa using hv1
    · simp at h2; omega
  subst hvs'
  obtain ⟨hlen, hov⟩ := hov
  rcases hov with ⟨h1, _⟩ | ⟨b', cs, TT, hb', hheap, hsize, hcell⟩
  · cases h1
  cases hb'
  have hheap : w.heap[b]? = some (.cells cs TT (0, 0)) := hheap
  let enc : T → List Value := fun x => (c x).map encD
  have hek : ∀ x, (enc x).length = k := fun x => by simp [enc, hk]
  have he1 : ∀ x, ∀ v ∈ enc x, v.oneCell' = true := fun x v hv => by
    simp only [enc, List.mem_map] at hv
    obtain ⟨d, hd, rfl⟩ := hv
    exact encD_one (List.all_eq_true.1 (hs x) d hd)
  have hblt : b < w.heap.size := (hm b rfl).1
  have hsd : l.toArray.size = l.length := by simp
  have hH : HoldsK enc k w b 0 l.toArray := by
    intro j hj
    rw [size_flatK, hsd] at hj
    have k0 : 0 < k := by rcases Nat.eq_zero_or_pos k with h | h; · subst h; simp at hj
                          · exact h
    have hi : j / k < l.length := by rw [Nat.div_lt_iff_lt_mul k0]; exact hj
    have hmod : j % k < k := Nat.mod_lt _ k0
    have hx : l.toArray[j / k]! = l.getD (j / k) default := get_toList _ _ (by simpa using hi)
    obtain ⟨d, hd⟩ : ∃ d, (c (l.getD (j / k) default))[j % k]? = some d := ⟨_, List.getElem?_eq_getElem (by rw [hk]; exact hmod)⟩
    obtain ⟨v, hv, _, hpv⟩ := hcell (j / k) hi (j % k) d hd
    have hsc := List.all_eq_true.1 (hs (l.getD (j / k) default)) d (List.mem_of_getElem? hd)
    have hve := encD_inv hsc hpv
    rw [Nat.mul_comm, Nat.div_add_mod] at hv
    refine ⟨?_, ?_⟩
    · rw [get_flatK _ _ _ _ (by rw [hsd]; exact hj), hx]
      have e2 : (enc (l.getD (j / k) default))[j % k]! = v := by
        have : (enc (l.getD (j / k) default))[j % k]? = some (encD d) := by simp only [enc, List.getElem?_map, hd, Option.map_some]
        rw [List.getElem!_of_getElem? this, hve]
      rw [e2]
      simp only [World.cell?, hheap, Nat.zero_add]
      simpa using hv
    · simp [World.frozen?, hheap]
  have hcmp : CmpLays P g #[] enc k cf b 0 l.toArray.size w := by
    intro q os dk _ x y
    have hW : GT P (sortWorldK enc k w b 0 q dk os) := gt_sort hGT fun gg hg e => hgm gg hg (by rw [e])
    have hargs : Vs (AV (NoCtx (fun _ => False) (sortWorldK enc k w b 0 q dk os))) #[.agg (enc x).toArray, .agg (enc y).toArray] [.agg (c x), .agg (c y)] := by
      have one : ∀ z, AV (NoCtx (fun _ => False) (sortWorldK enc k w b 0 q dk os)) (.agg (enc z).toArray) (.agg (c z)) := fun z => by
        refine ⟨_, rfl, by simp [enc], fun i v d h1 h2 => ?_⟩
        have hsc := List.all_eq_true.1 (hs z) d (List.mem_of_getElem? h2)
        have hv : v = encD d := by
          simp only [enc, List.getElem?_toArray, List.getElem?_map, h2, Option.map_some, Option.some.injEq] at h1
          exact h1.symm
        rw [hv]
        exact cv_pv (encD_pv hsc _ _)
      refine ⟨rfl, fun i v d h1 h2 => ?_⟩
      rcases i with _ | _ | i
      · simp at h1 h2; subst h1; subst h2; exact one x
      · simp at h1 h2; subst h1; subst h2; exact one y
      · simp at h2
    refine (hF x y (fun _ => False) _ _ hW (fun _ h => h.elim) hargs).mono ?_
    rintro e w' ⟨v, I1, rfl, hbw, _, hrv⟩
    have hv : v = .int .i64 (cf x y) := by
      have : PV I1 w' v (.int .i64 (cf x y)) := hrv
      cases this; rfl
    subst hv
    obtain ⟨q2, os2, h2⟩ := grow_of_bw hbw
    exact ⟨rfl, q2, os2, h2⟩
  have hmain := AnyQ.slices_SortFunc_eq L k aE zE enc hek he1 cf hO g #[] b 0 cap l.toArray w eg hcmp hH hblt (by simpa using hl)
  rw [hsd] at hmain
  refine hmain.mono ?_
  rintro e w' ⟨rfl, q, os, rfl⟩
  obtain ⟨hsl, _, _⟩ := sortP_ok hO l
  have hps : (pdq (ltOf cf) l.toArray 0 l.length (Lib.bitLen l.length) true true).size = l.length := by
    have := hsl; unfold sortP at this; simpa using this
  generalize hd' : pdq (ltOf cf) l.toArray 0 l.length (Lib.bitLen l.length) true true = d' at *
  have hw'b : (sortWorldK enc k w b 0 q d' os).heap[b]? = some (.cells (putCells id 0 (flatK enc k d') cs) TT (0, 0)) := by
    simp only [sortWorldK, grow, putRowK, putRow, mapBlock, Go.Sort.ahead]
    rw [Array.getElem?_append_left (by simpa using hblt), Array.getElem?_modify, if_pos rfl, hheap]
    rfl
  have hother : ∀ j, j < w.heap.size → j ≠ b → (sortWorldK enc k w b 0 q d' os).heap[j]? = w.heap[j]? := fun j hj hne => by
    simp only [sortWorldK, grow, putRowK, putRow, mapBlock, Go.Sort.ahead]
    rw [Array.getElem?_append_left (by simpa using hj), Array.getElem?_modify, if_neg (Ne.symm hne)]
  refine ⟨.tuple #[], I0, rfl, ⟨rfl, rfl, rfl, ?_, ?_, fun j hj hnl => ?_, fun j hj => ?_⟩, fun _ h => .inl h, ⟨fun i hi => hk _, .inr ⟨b, _, TT, rfl, hw'b, ?_, fun i hi j d hd => ?_⟩⟩, ⟨#[], rfl, rfl, fun i v d h1 _ => by simp at h1⟩⟩
  · simp [sortWorldK, grow, putRowK, putRow, mapBlock, Go.Sort.ahead]
  · simp [sortWorldK, grow, putRowK, putRow, mapBlock, Go.Sort.ahead]
  · exact hother j hj fun e => hnl (by simp [Fr.lent, e])
  · simp only [Fr.lent, List.mem_singleton, Option.some.injEq] at hj
    subst hj
    exact ⟨cs, _, TT, hheap, hw'b, by simp [putCells]⟩
  · simpa [putCells] using hsize
  · have hi' : i < d'.size := by rw [hps]; exact hi
    have hx : (sortP cf l).getD i default = d'[i]! := by unfold sortP; rw [hd', get_toList _ _ hi']
    have hd : (c ((sortP cf l).getD i default))[j]? = some d := hd
    rw [hx] at hd
    have hjk : j < k := by have := (List.getElem?_eq_some_iff.1 hd).1; rwa [hk] at this
    have hsc := List.all_eq_true.1 (hs d'[i]!) d (List.mem_of_getElem? hd)
    refine ⟨encD d, ?_, encD_one hsc, encD_pv hsc _ _⟩
    have hlt : i * k + j < d'.size * k := by
      have := Nat.mul_le_mul_right k (show i + 1 ≤ d'.size from hi'); rw [Nat.add_mul, Nat.one_mul] at this; omega
    have hcs : i * k + j < cs.size := by rw [hps] at hlt; omega
    have e1 : (i * k + j) / k = i := (blk_iff k i _ (by omega)).1 ⟨by omega, by omega⟩
    have e2 : (i * k + j) % k = j := by rw [Nat.mod_eq_sub_div_mul, e1]; omega
    simp only [putCells, Array.getElem?_mapIdx, Nat.zero_add, Nat.sub_zero, Nat.zero_le, true_and, size_flatK, id]
    rw [Array.getElem?_eq_getElem hcs, Option.map_some, if_pos hlt, get_flatK _ _ _ _ hlt, e1, e2]
    congr 1
    have : (enc d'[i]!)[j]? = some (encD d) := by simp only [enc, List.getElem?_map, hd, Option.map_some]
    rw [List.getElem!_of_getElem? this]
end
end Nv
namespace Nv
open Go Go.RowKit Go.Shelf Go.Sort Go.Proofs
section
variable {T : Type} [Inhabited T]
def SortOK (cmp : T → T → Option Int) : Prop := ∃ cf : T → T → Int, (∀ x y, cmp x y = some (cf x y)) ∧ SWO (ltOf cf)
open Classical in
noncomputable def sortM (cmp : T → T → Option Int) (l : List T) : Option (List T) := if h : SortOK cmp ∧ l.length < 4611686018427387904 then some (sortP h.1.choose l) else none
theorem sortM_some {cmp : T → T → Option Int} {l r : List T} (h : sortM cmp l = some r) : ∃ cf : T → T → Int, (∀ x y, cmp x y = some (cf x y)) ∧ SWO (ltOf cf) ∧ l.length < 4611686018427387904 ∧ r = sortP cf l := by
  unfold sortM at h
  split at h
  · rename_i hx
    exact ⟨hx.1.choose, hx.1.choose_spec.1, hx.1.choose_spec.2, hx.2, (Option.some.inj h).symm⟩
  · cases h
theorem sortM_eq {cmp : T → T → Option Int} {cf : T → T → Int} (hc : ∀ x y, cmp x y = some (cf x y)) (hO : SWO (ltOf cf)) {l : List T} (hl : l.length < 4611686018427387904) : sortM cmp l = some (sortP cf l) := by
  have hx : SortOK cmp ∧ l.length < 4611686018427387904 := ⟨⟨cf, hc, hO⟩, hl⟩
  unfold sortM
  rw [dif_pos hx]
  have : hx.1.choose = cf := by
    funext x y
    have h1 := hx.1.choose_spec.1 x y
    rw [hc x y] at h1
    exact (Option.some.inj h1).symm
  rw [this]
end
section
variable {T : Type}
theorem swo_sorted_unique {lt : T → T → Bool} (hO : SWO lt) : ∀ {s t : List T}, s.Perm t → s.Pairwise (fun x y => lt y x = false) → t.Pairwise (fun x y => lt x y = true) → s = t
  | [], t, hp, _, _ => (List.nil_perm.1 hp).symm
  | x :: s, [], hp, _, _ => by have := hp.length_eq; simp at this
  | x :: s, y :: t, hp, h1, h2 => by
    rw [List.pairwise_cons] at h1 h2
    have hy : y ∈ x :: s := hp.symm.subset List.mem_cons_self
    have hx : x ∈ y :: t := hp.subset List.mem_cons_self
    have e : x = y := by
      rcases List.mem_cons.1 hx with e | hx
      · exact e
      · rcases List.mem_cons.1 hy with e | hy
        · exact e.symm
        · have a1 := h1.1 y hy
          have a2 := h2.1 x hx
          rw [a2] at a1; cases a1
    subst e
    rw [swo_sorted_unique hO (List.Perm.cons_inv hp) h1.2 h2.2]
def insK (cmp : T → T → Option Int) (x : T) : List T → Option (List T)
  | [] => some [x]
  | y :: t => match cmp x y with
    | none => none
    | some c => bif decide (c < 0) then some (x :: y :: t) else match insK cmp x t with
      | none => none
      | some r => some (y :: r)
def isoK (cmp : T → T → Option Int) : List T → Option (List T)
  | [] => some []
  | x :: l => match isoK cmp l with
    | none => none
    | some r => insK cmp x r
def ascK (cmp : T → T → Option Int) : List T → Bool
  | x :: y :: t => (match cmp x y with | some c => decide (c < 0) | none => false) && ascK cmp (y :: t)
  | _ => true
def sortK (cmp : T → T → Option Int) (l : List T) : Option (List T) := match isoK cmp l with
  | none => none
  | some r => bif ascK cmp r && Nat.ble l.length 1000 then some r else none
theorem insK_perm {cmp : T → T → Option Int} {x : T} : ∀ {l r : List T}, insK cmp x l = some r → r.Perm (x :: l)
  | [], r, h => by simp only [insK, Option.some.injEq] at h; subst h; exact List.Perm.refl _
  | y :: t, r, h => by
    simp only [insK] at h
    split at h <;> try cases h
    rename_i c _
    cases hb : decide (c < 0) with
    | true => rw [hb] at h; simp only [cond_true, Option.some.injEq] at h; subst h; exact List.Perm.refl _
    | false =>
      rw [hb] at h
      simp only [cond_false] at h
      split at h <;> try cases h
      rename_i r' hr
      exact ((insK_perm hr).cons y).trans (List.Perm.swap x y t)
theorem isoK_perm {cmp : T → T → Option Int} : ∀ {l r : List T}, isoK cmp l = some r → r.Perm l
  | [], r, h => by simp only [isoK, Option.some.injEq] at h; subst h; exact List.Perm.refl _
  | x :: l, r, h => by
    simp only [isoK] at h
    split at h <;> try cases h
    rename_i r' hr
    exact (insK_perm h).trans ((isoK_perm hr).cons x)
theorem ascK_all {kc mc : T → T → Option Int} (hk : ∀ x y, Ref (kc x y) (mc x y)) {cf : T → T → Int} (hc : ∀ x y, mc x y = some (cf x y)) (hO : SWO (ltOf cf)) : ∀ {l : List T}, ascK kc l = true → l.Pairwise (fun x y => ltOf cf x y = true)
  | [], _ => List.Pairwise.nil
  | [x], _ => by simp
  | x :: y :: t, h => by
    simp only [ascK, Bool.and_eq_true] at h
    have ih := ascK_all hk hc hO (l := y :: t) h.2
    have h1 : ltOf cf x y = true := by
      have h3 := h.1
      split at h3
      · rename_i c hcx
        have := hk x y c hcx
        rw [hc] at this
        cases this
        exact h3
      · cases h3
    rw [List.pairwise_cons]
    refine ⟨fun z hz => ?_, ih⟩
    rcases List.mem_cons.1 hz with rfl | hz
    · exact h1
    · exact hO.trans _ _ _ h1 ((List.pairwise_cons.1 ih).1 z hz)
end
section
variable {T : Type} [Inhabited T]
theorem ref_sort {kc mc : T → T → Option Int} (hk : ∀ x y, Ref (kc x y) (mc x y)) (ok : SortOK mc) {l : List T} : Ref (sortK kc l) (sortM mc l) := by
  intro r hr
  unfold sortK at hr
  split at hr <;> try cases hr
  rename_i r' hi
  cases hb : (ascK kc r' && Nat.ble l.length 1000) with
  | false => rw [hb] at hr; cases hr
  | true =>
    rw [hb] at hr
    simp only [cond_true, Option.some.injEq] at hr
    subst hr
    simp only [Bool.and_eq_true] at hb
    have hlen := Nat.le_of_ble_eq_true hb.2
    obtain ⟨cf, hc, hO⟩ := ok
    rw [sortM_eq hc hO (by omega)]
    obtain ⟨_, h2, h3⟩ := sortP_ok hO l
    rw [swo_sorted_unique hO (h2.trans (isoK_perm hi).symm) h3 (ascK_all hk hc hO hb.1)]
end
end Nv
namespace Nv
open Go Go.RowKit Go.Shelf Go.Sort Go.Proofs
section
variable {T : Type} [Inhabited T]
theorem sortF0 {P : Program} {ρ : Ren} (L : SlLaysF0.n6 P ρ) (k : Nat) (aE : ∀ w, (isAgg (ρ.t 24)).run P w = .ok true w) (zE : ∀ w, (Go.sizeOf (ρ.t 24)).run P w = .ok k w) (c : T → List D) (hk : ∀ x, (c x).length = k) (hs : ∀ x, (c x).all scB = true)
    {cf : T → T → Int} (hO : SWO (ltOf cf)) (g : Nat) (eg : ∀ args w, (callFunc g args).run P w = .ok (.enter g args) w) (hF : ∀ x y, Fn P g [.agg (c x), .agg (c y)] (.pure (.int .i64 (cf x y)))) (l : List T) (hl : l.length < 4611686018427387904) :
    FnM P (ρ.f 6) [.asl 0 0 l.length, .fn g []] k l.length (fun i => c (l.getD i default)) (fun i => c ((sortP cf l).getD i default)) (.tup []) := by
  rcases Nat.eq_zero_or_pos l.length with h0 | h0
  · obtain rfl := List.eq_nil_of_length_eq_zero h0
    have hp : sortP cf ([] : List T) = [] := List.eq_nil_of_length_eq_zero (by rw [(sortP_ok hO []).1]; rfl)
    rw [hp]
    intro I0 w m vs hGT hgm hI0 hm hov hvs
    have hsz : vs.size = 2 := hvs.1
    have hv0 := hvs.2 0 vs[0] (.asl 0 0 0) (by simp [hsz]) rfl
    have hv1 := hvs.2 1 vs[1] (.fn g []) (by simp [hsz]) rfl
    simp only [AV, CV] at hv0
    obtain ⟨wd1, n1, f1, a, cap, hH, hle, hv0, hcap, hor⟩ := hv0
    have hvs' : vs = #[.slice a 0 cap, vs[1]] := by
      apply Array.ext (by simp [hsz])
      intro i h1 h2
      rcases i with _ | _ | i
      · simpa using hv0
      · simp
      · simp at h2; omega
    rw [hvs']
    refine (AnyF.slices_SortFunc_none L a cap _ w).mono ?_
    rintro e w' ⟨rfl, rfl⟩
    refine ⟨.tuple #[], I0, rfl, ⟨rfl, rfl, rfl, Nat.le_refl _, Nat.le_refl _, fun _ _ _ => rfl, fun j hj => ?_⟩, fun _ h => .inl h, hov, ⟨#[], rfl, rfl, fun i v d h1 _ => by simp at h1⟩⟩
    simp only [Fr.lent, List.mem_singleton] at hj
    subst hj
    obtain ⟨_, hov⟩ := hov
    rcases hov with ⟨h1, _⟩ | ⟨b', cs, TT, hb', hheap, _⟩
    · cases h1
    · cases hb'
      exact ⟨cs, cs, TT, hheap, hheap, rfl⟩
  · exact sortF L k aE zE c hk hs hO g eg hF l hl h0
end
end Nv
namespace Nv
open Go
section
variable {α : Type} [Inhabited α] (cmp : α → α → Option Int)
noncomputable def Z.insertionSort_l2 (a1 : Int) (p3 : (List α) × Int) : Option (((List α) × Int) ⊕ (List α)) :=
  (gc (decide (p3.2 > a1)) (cmp (p3.1.getD (0 + p3.2.toNat) default) (p3.1.getD (0 + (wr .i64 (p3.2 - 1)).toNat) default))).bind fun r5 => gd [guardB (decide (p3.2 > a1)) (decide (0 ≤ p3.2)), guardB (decide (p3.2 > a1)) (decide (p3.2 < (p3.1.length : Int))), guardB (decide (p3.2 > a1)) (decide (0 ≤ (wr .i64 (p3.2 - 1)))), guardB (decide (p3.2 > a1)) (decide ((wr .i64 (p3.2 - 1)) < (p3.1.length : Int)))] (bif (decide (p3.2 > a1)) && (decide (r5 < 0)) then (gd [decide (0 ≤ (wr .i64 (p3.2 - 1))), decide ((wr .i64 (p3.2 - 1)) < (p3.1.length : Int)), decide (0 ≤ p3.2), decide (p3.2 < (p3.1.length : Int)), decide (0 ≤ p3.2), decide (p3.2 < (p3.1.length : Int)), decide (0 ≤ (wr .i64 (p3.2 - 1))), decide ((wr .i64 (p3.2 - 1)) < (p3.1.length : Int))] (some (.inl ((p3.1.set (0 + p3.2.toNat) (p3.1.getD (0 + (wr .i64 (p3.2 - 1)).toNat) default)).set (0 + (wr .i64 (p3.2 - 1)).toNat) (p3.1.getD (0 + p3.2.toNat) default), wr .i64 (p3.2 - 1))))) else (some (.inr p3.1)))
noncomputable def Z.insertionSort_l1 (a1 : Int) (a2 : Int) (p1 : (List α) × Int) : Option (((List α) × Int) ⊕ (List α)) :=
  bif decide (p1.2 < a2) then ((loopM (Z.insertionSort_l2 cmp a1) (p1.1, p1.2)).bind fun y6 => some (.inl (y6, wr .i64 (p1.2 + 1)))) else (some (.inr p1.1))
noncomputable def Z.insertionSort (a0 : List α) (a1 : Int) (a2 : Int) : Option (List α) :=
  (loopM (Z.insertionSort_l1 cmp a1 a2) (a0, wr .i64 (a1 + 1))).bind fun y7 => gd [decide (y7.length = a0.length)] (some y7)
noncomputable def Z.swapRange_l1 (a1 : Int) (a2 : Int) (a3 : Int) (p1 : (List α) × Int) : Option (((List α) × Int) ⊕ (List α)) :=
  bif decide (p1.2 < a3) then (gd [decide (0 ≤ (wr .i64 (a2 + p1.2))), decide ((wr .i64 (a2 + p1.2)) < (p1.1.length : Int)), decide (0 ≤ (wr .i64 (a1 + p1.2))), decide ((wr .i64 (a1 + p1.2)) < (p1.1.length : Int)), decide (0 ≤ (wr .i64 (a1 + p1.2))), decide ((wr .i64 (a1 + p1.2)) < (p1.1.length : Int)), decide (0 ≤ (wr .i64 (a2 + p1.2))), decide ((wr .i64 (a2 + p1.2)) < (p1.1.length : Int))] (some (.inl ((p1.1.set (0 + (wr .i64 (a1 + p1.2)).toNat) (p1.1.getD (0 + (wr .i64 (a2 + p1.2)).toNat) default)).set (0 + (wr .i64 (a2 + p1.2)).toNat) (p1.1.getD (0 + (wr .i64 (a1 + p1.2)).toNat) default), wr .i64 (p1.2 + 1))))) else (some (.inr p1.1))
noncomputable def Z.swapRange (a0 : List α) (a1 : Int) (a2 : Int) (a3 : Int) : Option (List α) :=
  (loopM (Z.swapRange_l1 a1 a2 a3) (a0, 0)).bind fun y3 => gd [decide (y3.length = a0.length)] (some y3)
noncomputable def Z.rotate_l1 (a2 : Int) (p1 : (List α) × Int × Int) : Option (((List α) × Int × Int) ⊕ (Int × (List α))) :=
  bif p1.2.1 != p1.2.2 then (bif decide (p1.2.1 > p1.2.2) then ((Z.swapRange p1.1 (wr .i64 (a2 - p1.2.1)) a2 p1.2.2).bind fun r3 => gd [decide (r3.length = p1.1.length)] (some (.inl (r3, wr .i64 (p1.2.1 - p1.2.2), p1.2.2)))) else ((Z.swapRange p1.1 (wr .i64 (a2 - p1.2.1)) (wr .i64 ((wr .i64 (a2 + p1.2.2)) - p1.2.1)) p1.2.1).bind fun r4 => gd [decide (r4.length = p1.1.length)] (some (.inl (r4, p1.2.1, wr .i64 (p1.2.2 - p1.2.1)))))) else (some (.inr (p1.2.1, p1.1)))
noncomputable def Z.rotate (a0 : List α) (a1 : Int) (a2 : Int) (a3 : Int) : Option (List α) :=
  (loopM (Z.rotate_l1 a2) (a0, wr .i64 (a2 - a1), wr .i64 (a3 - a2))).bind fun y5 => (Z.swapRange y5.2 (wr .i64 (a2 - y5.1)) a2 y5.1).bind fun r6 => gd [decide (r6.length = y5.2.length)] (gd [decide (r6.length = a0.length)] (some r6))
noncomputable def Z.symMerge_l1 (a0 : List α) (a1 : Int) (p1 : Int × Int) : Option ((Int × Int) ⊕ Int) :=
  bif decide (p1.1 < p1.2) then (gd [decide (0 ≤ 1)] ((cmp (a0.getD (0 + (wr .i64 ((wr .u64 (wr .i64 (p1.1 + p1.2))).fdiv (2 ^ min (1 : Int).toNat 64))).toNat) default) (a0.getD (0 + a1.toNat) default)).bind fun r3 => gd [decide (0 ≤ (wr .i64 ((wr .u64 (wr .i64 (p1.1 + p1.2))).fdiv (2 ^ min (1 : Int).toNat 64)))), decide ((wr .i64 ((wr .u64 (wr .i64 (p1.1 + p1.2))).fdiv (2 ^ min (1 : Int).toNat 64))) < (a0.length : Int)), decide (0 ≤ a1), decide (a1 < (a0.length : Int))] (bif decide (r3 < 0) then (some (.inl (wr .i64 ((wr .i64 ((wr .u64 (wr .i64 (p1.1 + p1.2))).fdiv (2 ^ min (1 : Int).toNat 64))) + 1), p1.2))) else (some (.inl (p1.1, wr .i64 ((wr .u64 (wr .i64 (p1.1 + p1.2))).fdiv (2 ^ min (1 : Int).toNat 64)))))))) else (some (.inr p1.1))
noncomputable def Z.symMerge_l2 (y4 : Int) (p5 : (List α) × Int) : Option (((List α) × Int) ⊕ (List α)) :=
  bif decide (p5.2 < (wr .i64 (y4 - 1))) then (gd [decide (0 ≤ (wr .i64 (p5.2 + 1))), decide ((wr .i64 (p5.2 + 1)) < (p5.1.length : Int)), decide (0 ≤ p5.2), decide (p5.2 < (p5.1.length : Int)), decide (0 ≤ p5.2), decide (p5.2 < (p5.1.length : Int)), decide (0 ≤ (wr .i64 (p5.2 + 1))), decide ((wr .i64 (p5.2 + 1)) < (p5.1.length : Int))] (some (.inl ((p5.1.set (0 + p5.2.toNat) (p5.1.getD (0 + (wr .i64 (p5.2 + 1)).toNat) default)).set (0 + (wr .i64 (p5.2 + 1)).toNat) (p5.1.getD (0 + p5.2.toNat) default), wr .i64 (p5.2 + 1))))) else (some (.inr p5.1))
noncomputable def Z.symMerge_l3 (a0 : List α) (a2 : Int) (p8 : Int × Int) : Option ((Int × Int) ⊕ Int) :=
  bif decide (p8.1 < p8.2) then (gd [decide (0 ≤ 1)] ((cmp (a0.getD (0 + a2.toNat) default) (a0.getD (0 + (wr .i64 ((wr .u64 (wr .i64 (p8.1 + p8.2))).fdiv (2 ^ min (1 : Int).toNat 64))).toNat) default)).bind fun r10 => gd [decide (0 ≤ a2), decide (a2 < (a0.length : Int)), decide (0 ≤ (wr .i64 ((wr .u64 (wr .i64 (p8.1 + p8.2))).fdiv (2 ^ min (1 : Int).toNat 64)))), decide ((wr .i64 ((wr .u64 (wr .i64 (p8.1 + p8.2))).fdiv (2 ^ min (1 : Int).toNat 64))) < (a0.length : Int))] (bif !(decide (r10 < 0)) then (some (.inl (wr .i64 ((wr .i64 ((wr .u64 (wr .i64 (p8.1 + p8.2))).fdiv (2 ^ min (1 : Int).toNat 64))) + 1), p8.2))) else (some (.inl (p8.1, wr .i64 ((wr .u64 (wr .i64 (p8.1 + p8.2))).fdiv (2 ^ min (1 : Int).toNat 64)))))))) else (some (.inr p8.1))
noncomputable def Z.symMerge_l4 (y11 : Int) (p12 : (List α) × Int) : Option (((List α) × Int) ⊕ (List α)) :=
  bif decide (p12.2 > y11) then (gd [decide (0 ≤ (wr .i64 (p12.2 - 1))), decide ((wr .i64 (p12.2 - 1)) < (p12.1.length : Int)), decide (0 ≤ p12.2), decide (p12.2 < (p12.1.length : Int)), decide (0 ≤ p12.2), decide (p12.2 < (p12.1.length : Int)), decide (0 ≤ (wr .i64 (p12.2 - 1))), decide ((wr .i64 (p12.2 - 1)) < (p12.1.length : Int))] (some (.inl ((p12.1.set (0 + p12.2.toNat) (p12.1.getD (0 + (wr .i64 (p12.2 - 1)).toNat) default)).set (0 + (wr .i64 (p12.2 - 1)).toNat) (p12.1.getD (0 + p12.2.toNat) default), wr .i64 (p12.2 - 1))))) else (some (.inr p12.1))
noncomputable def Z.symMerge_l5 (a0 : List α) (a1 : Int) (a2 : Int) (a3 : Int) (p16 : Int × Int) : Option ((Int × Int) ⊕ Int) :=
  bif decide (p16.1 < p16.2) then (gd [decide (0 ≤ 1)] ((cmp (a0.getD (0 + (wr .i64 ((wr .i64 ((wr .i64 ((wr .i64 ((wr .u64 (wr .i64 (a1 + a3))).fdiv (2 ^ min (1 : Int).toNat 64))) + a2)) - 1)) - (wr .i64 ((wr .u64 (wr .i64 (p16.1 + p16.2))).fdiv (2 ^ min (1 : Int).toNat 64))))).toNat) default) (a0.getD (0 + (wr .i64 ((wr .u64 (wr .i64 (p16.1 + p16.2))).fdiv (2 ^ min (1 : Int).toNat 64))).toNat) default)).bind fun r18 => gd [decide (0 ≤ (wr .i64 ((wr .i64 ((wr .i64 ((wr .i64 ((wr .u64 (wr .i64 (a1 + a3))).fdiv (2 ^ min (1 : Int).toNat 64))) + a2)) - 1)) - (wr .i64 ((wr .u64 (wr .i64 (p16.1 + p16.2))).fdiv (2 ^ min (1 : Int).toNat 64)))))), decide ((wr .i64 ((wr .i64 ((wr .i64 ((wr .i64 ((wr .u64 (wr .i64 (a1 + a3))).fdiv (2 ^ min (1 : Int).toNat 64))) + a2)) - 1)) - (wr .i64 ((wr .u64 (wr .i64 (p16.1 + p16.2))).fdiv (2 ^ min (1 : Int).toNat 64))))) < (a0.length : Int)), decide (0 ≤ (wr .i64 ((wr .u64 (wr .i64 (p16.1 + p16.2))).fdiv (2 ^ min (1 : Int).toNat 64)))), decide ((wr .i64 ((wr .u64 (wr .i64 (p16.1 + p16.2))).fdiv (2 ^ min (1 : Int).toNat 64))) < (a0.length : Int))] (bif !(decide (r18 < 0)) then (some (.inl (wr .i64 ((wr .i64 ((wr .u64 (wr .i64 (p16.1 + p16.2))).fdiv (2 ^ min (1 : Int).toNat 64))) + 1), p16.2))) else (some (.inl (p16.1, wr .i64 ((wr .u64 (wr .i64 (p16.1 + p16.2))).fdiv (2 ^ min (1 : Int).toNat 64)))))))) else (some (.inr p16.1))
noncomputable def Z.symMerge_k3 (self : (List α) → Int → Int → Int → Option (List α)) (a0 : List α) (a1 : Int) (a2 : Int) (a3 : Int) (y19 : Int) (p21 : (List α)) : Option (List α) :=
  bif (decide ((wr .i64 ((wr .u64 (wr .i64 (a1 + a3))).fdiv (2 ^ min (1 : Int).toNat 64))) < (wr .i64 ((wr .i64 ((wr .i64 ((wr .u64 (wr .i64 (a1 + a3))).fdiv (2 ^ min (1 : Int).toNat 64))) + a2)) - y19)))) && (decide ((wr .i64 ((wr .i64 ((wr .i64 ((wr .u64 (wr .i64 (a1 + a3))).fdiv (2 ^ min (1 : Int).toNat 64))) + a2)) - y19)) < a3)) then ((self p21 (wr .i64 ((wr .u64 (wr .i64 (a1 + a3))).fdiv (2 ^ min (1 : Int).toNat 64))) (wr .i64 ((wr .i64 ((wr .i64 ((wr .u64 (wr .i64 (a1 + a3))).fdiv (2 ^ min (1 : Int).toNat 64))) + a2)) - y19)) a3).bind fun r22 => gd [decide (r22.length = p21.length)] (gd [decide (r22.length = a0.length)] (some r22))) else (gd [decide (p21.length = a0.length)] (some p21))
noncomputable def Z.symMerge_k2 (self : (List α) → Int → Int → Int → Option (List α)) (a0 : List α) (a1 : Int) (a2 : Int) (a3 : Int) (y19 : Int) (p20 : (List α)) : Option (List α) :=
  bif (decide (a1 < y19)) && (decide (y19 < (wr .i64 ((wr .u64 (wr .i64 (a1 + a3))).fdiv (2 ^ min (1 : Int).toNat 64))))) then ((self p20 a1 y19 (wr .i64 ((wr .u64 (wr .i64 (a1 + a3))).fdiv (2 ^ min (1 : Int).toNat 64)))).bind fun r23 => gd [decide (r23.length = p20.length)] (Z.symMerge_k3 self a0 a1 a2 a3 y19 r23)) else (Z.symMerge_k3 self a0 a1 a2 a3 y19 p20)
noncomputable def Z.symMerge_k1 (self : (List α) → Int → Int → Int → Option (List α)) (a0 : List α) (a1 : Int) (a2 : Int) (a3 : Int) (p15 : Int × Int) : Option (List α) :=
  (loopM (Z.symMerge_l5 cmp a0 a1 a2 a3) (p15.1, p15.2)).bind fun y19 => bif (decide (y19 < a2)) && (decide (a2 < (wr .i64 ((wr .i64 ((wr .i64 ((wr .u64 (wr .i64 (a1 + a3))).fdiv (2 ^ min (1 : Int).toNat 64))) + a2)) - y19)))) then ((Z.rotate a0 y19 a2 (wr .i64 ((wr .i64 ((wr .i64 ((wr .u64 (wr .i64 (a1 + a3))).fdiv (2 ^ min (1 : Int).toNat 64))) + a2)) - y19))).bind fun r24 => gd [decide (r24.length = a0.length)] (Z.symMerge_k2 self a0 a1 a2 a3 y19 r24)) else (Z.symMerge_k2 self a0 a1 a2 a3 y19 a0)
noncomputable def Z.symMerge_b (self : (List α) → Int → Int → Int → Option (List α)) (a0 : List α) (a1 : Int) (a2 : Int) (a3 : Int) : Option (List α) :=
  bif (wr .i64 (a2 - a1)) == 1 then ((loopM (Z.symMerge_l1 cmp a0 a1) (a2, a3)).bind fun y4 => (loopM (Z.symMerge_l2 y4) (a0, a1)).bind fun y7 => gd [decide (y7.length = a0.length)] (some y7)) else (bif (wr .i64 (a3 - a2)) == 1 then ((loopM (Z.symMerge_l3 cmp a0 a2) (a1, a2)).bind fun y11 => (loopM (Z.symMerge_l4 y11) (a0, a2)).bind fun y14 => gd [decide (y14.length = a0.length)] (some y14)) else (gd [decide (0 ≤ 1)] (bif decide (a2 > (wr .i64 ((wr .u64 (wr .i64 (a1 + a3))).fdiv (2 ^ min (1 : Int).toNat 64)))) then (Z.symMerge_k1 cmp self a0 a1 a2 a3 (wr .i64 ((wr .i64 ((wr .i64 ((wr .u64 (wr .i64 (a1 + a3))).fdiv (2 ^ min (1 : Int).toNat 64))) + a2)) - a3), wr .i64 ((wr .u64 (wr .i64 (a1 + a3))).fdiv (2 ^ min (1 : Int).toNat 64)))) else (Z.symMerge_k1 cmp self a0 a1 a2 a3 (a1, a2)))))
noncomputable def Z.symMerge_n : Nat → (List α) → Int → Int → Int → Option (List α)
  | 0 => fun _ _ _ _ => none
  | n + 1 => Z.symMerge_b cmp (Z.symMerge_n n)
noncomputable def Z.symMerge (a0 : List α) (a1 : Int) (a2 : Int) (a3 : Int) : Option (List α) :=
  recM (fun n (x : (List α) × Int × Int × Int) => Z.symMerge_n cmp n x.1 x.2.1 x.2.2.1 x.2.2.2) (a0, a1, a2, a3)
noncomputable def Z.stable_l1 (a1 : Int) (p1 : (List α) × Int × Int) : Option (((List α) × Int × Int) ⊕ (Int × (List α))) :=
  bif decide (p1.2.2 ≤ a1) then ((Z.insertionSort cmp p1.1 p1.2.1 p1.2.2).bind fun r3 => gd [decide (r3.length = p1.1.length)] (some (.inl (r3, p1.2.2, wr .i64 (p1.2.2 + 20))))) else (some (.inr (p1.2.1, p1.1)))
noncomputable def Z.stable_l3 (a1 : Int) (p6 : (List α) × Int) (p8 : (List α) × Int × Int) : Option (((List α) × Int × Int) ⊕ (Int × (List α))) :=
  bif decide (p8.2.2 ≤ a1) then ((Z.symMerge cmp p8.1 p8.2.1 (wr .i64 (p8.2.1 + p6.2)) p8.2.2).bind fun r10 => gd [decide (r10.length = p8.1.length)] (some (.inl (r10, p8.2.2, wr .i64 (p8.2.2 + (wr .i64 (2 * p6.2))))))) else (some (.inr (p8.2.1, p8.1)))
noncomputable def Z.stable_k1 (p6 : (List α) × Int) (p12 : (List α)) : Option (((List α) × Int) ⊕ (List α)) :=
  some (.inl (p12, wr .i64 (p6.2 * 2)))
noncomputable def Z.stable_l2 (a1 : Int) (p6 : (List α) × Int) : Option (((List α) × Int) ⊕ (List α)) :=
  bif decide (p6.2 < a1) then ((loopM (Z.stable_l3 cmp a1 p6) (p6.1, 0, wr .i64 (2 * p6.2))).bind fun y11 => bif decide ((wr .i64 (y11.1 + p6.2)) < a1) then ((Z.symMerge cmp y11.2 y11.1 (wr .i64 (y11.1 + p6.2)) a1).bind fun r13 => gd [decide (r13.length = y11.2.length)] (Z.stable_k1 p6 r13)) else (Z.stable_k1 p6 y11.2)) else (some (.inr p6.1))
noncomputable def Z.stable (a0 : List α) (a1 : Int) : Option (List α) :=
  (loopM (Z.stable_l1 cmp a1) (a0, 0, 20)).bind fun y4 => (Z.insertionSort cmp y4.2 y4.1 a1).bind fun r5 => gd [decide (r5.length = y4.2.length)] ((loopM (Z.stable_l2 cmp a1) (r5, 20)).bind fun y14 => gd [decide (y14.length = a0.length)] (some y14))
noncomputable def Z.SortStable (a0 : List α) : Option (List α) :=
  (Z.stable cmp a0 (a0.length : Int)).bind fun r1 => gd [decide (r1.length = a0.length)] (gd [decide (r1.length = a0.length)] (some r1))
end
end Nv
namespace Nv
open Go
section
variable {α : Type} [Inhabited α]
theorem wrN {n : Int} (h0 : 0 ≤ n) (h1 : n ≤ 9223372036854775807) : wr .i64 n = n := by
  unfold wr
  rw [IntWalk.i64_in _ (by omega)]
theorem wrU {n : Int} (h0 : 0 ≤ n) (h1 : n ≤ 9223372036854775807) : wr .u64 n = n := by
  unfold wr
  simp [IntKind.wrap, IntKind.bits, IntKind.signed]
  omega
theorem half {i j : Nat} (h : i + j ≤ 9223372036854775807) : wr .i64 ((wr .u64 (wr .i64 ((i : Int) + (j : Int)))).fdiv (2 ^ min (1 : Int).toNat 64)) = (((i + j) / 2 : Nat) : Int) := by
  rw [wrN (n := (i : Int) + j) (by omega) (by omega), wrU (by omega) (by omega)]
  have : ((i : Int) + j).fdiv (2 ^ min (1 : Int).toNat 64) = (((i + j) / 2 : Nat) : Int) := by
    rw [show (2 : Int) ^ min (1 : Int).toNat 64 = 2 by decide, Int.fdiv_eq_ediv_of_nonneg _ (by omega)]
    omega
  rw [this, wrN (by omega) (by omega)]
abbrev at' (l : List α) (k : Nat) : α := l.getD k default
theorem ext_at {l l' : List α} (h : l.length = l'.length) (k : ∀ i, i < l.length → at' l i = at' l' i) : l = l' := by
  apply List.ext_getElem h
  intro i h1 h2
  have := k i h1
  simpa [at', h1, h2] using this
theorem at_set (l : List α) (i k : Nat) (x : α) : at' (l.set i x) k = if i = k ∧ k < l.length then x else at' l k := by
  simp only [at', List.getD_eq_getElem?_getD, List.getElem?_set]
  by_cases h : i = k
  · subst h
    by_cases h2 : i < l.length <;> simp [h2]
  · simp [h]
def swp (l : List α) (i j : Nat) : List α := (l.set i (at' l j)).set j (at' l i)
@[simp] theorem swp_len (l : List α) (i j : Nat) : (swp l i j).length = l.length := by simp [swp]
theorem swp_at {l : List α} {i j : Nat} (hi : i < l.length) (hj : j < l.length) (k : Nat) : at' (swp l i j) k = if k = j then at' l i else if k = i then at' l j else at' l k := by
  unfold swp
  rw [at_set, at_set]
  by_cases h1 : k = j
  · subst h1; simp [hj]
  · by_cases h2 : k = i
    · subst h2; simp [hi, h1]; omega
    · rw [if_neg (by omega), if_neg (by omega), if_neg h1, if_neg h2]
end
section
variable {α : Type}
structure SW (lt : α → α → Bool) : Prop where
  irr : ∀ x, lt x x = false
  tr : ∀ x y z, lt x y = true → lt y z = true → lt x z = true
  ntr : ∀ x y z, lt x y = false → lt y z = false → lt x z = false
variable {lt : α → α → Bool}
theorem SW.asym (h : SW lt) {x y : α} (k : lt x y = true) : lt y x = false := by
  cases e : lt y x with
  | false => rfl
  | true => have := h.tr _ _ _ k e; rw [h.irr] at this; cases this
theorem SW.lt_of_le_lt (h : SW lt) {x y z : α} (h1 : lt y x = false) (h2 : lt y z = true) : lt x z = true := by
  cases e : lt x z with
  | true => rfl
  | false => have := h.ntr _ _ _ h1 e; rw [h2] at this; cases this
theorem SW.lt_of_lt_le (h : SW lt) {x y z : α} (h1 : lt x y = true) (h2 : lt z y = false) : lt x z = true := by
  cases e : lt x z with
  | true => rfl
  | false => have := h.ntr _ _ _ e h2; rw [h1] at this; cases this
def eqv (lt : α → α → Bool) (e x : α) : Bool := !lt e x && !lt x e
end
section
variable {α : Type} [Inhabited α] {lt : α → α → Bool}
structure Rng (lt : α → α → Bool) (a b : Nat) (l l' : List α) : Prop where
  len : l'.length = l.length
  out : ∀ k, k < a ∨ b ≤ k → at' l' k = at' l k
  stab : ∀ e, l'.filter (eqv lt e) = l.filter (eqv lt e)
  src : ∀ k, a ≤ k → k < b → ∃ k', a ≤ k' ∧ k' < b ∧ at' l' k = at' l k'
theorem Rng.refl (a b : Nat) (l : List α) : Rng lt a b l l := ⟨rfl, fun _ _ => rfl, fun _ => rfl, fun k h1 h2 => ⟨k, h1, h2, rfl⟩⟩
theorem Rng.trans {a b : Nat} {l m n : List α} (h : Rng lt a b l m) (k : Rng lt a b m n) : Rng lt a b l n :=
  ⟨k.len.trans h.len, fun i hi => (k.out i hi).trans (h.out i hi), fun e => (k.stab e).trans (h.stab e), fun i h1 h2 => by
    obtain ⟨j, j1, j2, j3⟩ := k.src i h1 h2
    obtain ⟨p, p1, p2, p3⟩ := h.src j j1 j2
    exact ⟨p, p1, p2, j3.trans p3⟩⟩
theorem Rng.mono {a b a' b' : Nat} {l m : List α} (h : Rng lt a b l m) (ha : a' ≤ a) (hb : b ≤ b') : Rng lt a' b' l m :=
  ⟨h.len, fun k hk => h.out k (by omega), h.stab, fun k h1 h2 => by
    by_cases hk : a ≤ k ∧ k < b
    · obtain ⟨j, j1, j2, j3⟩ := h.src k hk.1 hk.2
      exact ⟨j, by omega, by omega, j3⟩
    · exact ⟨k, h1, h2, h.out k (by omega)⟩⟩
theorem rng_blocks (hS : SW lt) {P U V Q : List α} (h : ∀ u ∈ U, ∀ v ∈ V, lt v u = true) : Rng lt P.length (P.length + (U.length + V.length)) (P ++ (U ++ V) ++ Q) (P ++ (V ++ U) ++ Q) := by
  refine ⟨by simp; omega, fun k hk => ?_, fun e => ?_, fun k h1 h2 => ?_⟩
  · simp only [at', List.getD_eq_getElem?_getD]
    rcases hk with hk | hk
    · rw [List.append_assoc, List.append_assoc P, List.getElem?_append_left hk, List.getElem?_append_left hk]
    · rw [List.getElem?_append_right (by simp; omega), List.getElem?_append_right (by simp; omega)]
      congr 2
      simp; omega
  · have key : V.filter (eqv lt e) ++ U.filter (eqv lt e) = U.filter (eqv lt e) ++ V.filter (eqv lt e) := by
      rcases hU : U.filter (eqv lt e) with _ | ⟨u, us⟩
      · simp
      · rcases hV : V.filter (eqv lt e) with _ | ⟨v, vs⟩
        · simp
        · have hu : u ∈ U.filter (eqv lt e) := by rw [hU]; simp
          have hv : v ∈ V.filter (eqv lt e) := by rw [hV]; simp
          rw [List.mem_filter] at hu hv
          have h1 := h u hu.1 v hv.1
          have h2 := hu.2; have h3 := hv.2
          simp only [eqv, Bool.and_eq_true, Bool.not_eq_true'] at h2 h3
          have := hS.ntr _ _ _ h3.2 h2.1
          rw [h1] at this; cases this
    simp only [List.filter_append, key]
  · have hk : k - P.length < (V ++ U).length := by simp; omega
    have e1 : at' (P ++ (V ++ U) ++ Q) k = (V ++ U)[k - P.length] := by
      simp only [at', List.getD_eq_getElem?_getD]
      rw [List.append_assoc, List.getElem?_append_right h1, List.getElem?_append_left hk, List.getElem?_eq_getElem hk]; rfl
    have hm : (V ++ U)[k - P.length] ∈ U ++ V := by
      have := List.getElem_mem hk
      simp only [List.mem_append] at this ⊢
      exact this.symm
    obtain ⟨j, hj, ej⟩ := List.getElem_of_mem hm
    refine ⟨P.length + j, by omega, by simp at hj; omega, ?_⟩
    rw [e1, ← ej]
    simp only [at', List.getD_eq_getElem?_getD]
    rw [List.append_assoc, List.getElem?_append_right (by omega), Nat.add_sub_cancel_left, List.getElem?_append_left hj, List.getElem?_eq_getElem hj]
    rfl
theorem rng_rot (hS : SW lt) {l l' : List α} {a m b : Nat} (ham : a ≤ m) (hmb : m ≤ b) (hb : b ≤ l.length) (hl : l'.length = l.length)
    (h1 : ∀ k, k < a ∨ b ≤ k → at' l' k = at' l k) (h2 : ∀ k, a ≤ k → k < a + (b - m) → at' l' k = at' l (k + (m - a))) (h3 : ∀ k, a + (b - m) ≤ k → k < b → at' l' k = at' l (k - (b - m)))
    (h : ∀ i j, a ≤ i → i < m → m ≤ j → j < b → lt (at' l j) (at' l i) = true) : Rng lt a b l l' := by
  have e : l = l.take a ++ ((l.drop a).take (m - a) ++ (l.drop m).take (b - m)) ++ l.drop b := by
    have q1 : l.drop m = (l.drop m).take (b - m) ++ l.drop b := by
      have := List.take_append_drop (b - m) (l.drop m)
      rw [List.drop_drop, show m + (b - m) = b by omega] at this
      exact this.symm
    have q2 : l.drop a = (l.drop a).take (m - a) ++ l.drop m := by
      have := List.take_append_drop (m - a) (l.drop a)
      rw [List.drop_drop, show a + (m - a) = m by omega] at this
      exact this.symm
    rw [List.append_assoc, List.append_assoc, ← q1, ← q2, List.take_append_drop]
  have e' : l' = l.take a ++ ((l.drop m).take (b - m) ++ (l.drop a).take (m - a)) ++ l.drop b := by
    apply ext_at
    · simp; omega
    · intro i hi
      by_cases q1 : i < a
      · rw [h1 i (.inl q1)]
        simp only [at', List.getD_eq_getElem?_getD, List.append_assoc]
        rw [List.getElem?_append_left (by simp; omega)]; simp [q1]
      · by_cases q2 : i < a + (b - m)
        · rw [h2 i (by omega) q2]
          simp only [at', List.getD_eq_getElem?_getD, List.append_assoc]
          rw [List.getElem?_append_right (by simp; omega), List.getElem?_append_left (by simp; omega)]
          simp only [List.getElem?_take, List.length_take]
          rw [if_pos (by omega)]; simp; congr 2; omega
        · by_cases q3 : i < b
          · rw [h3 i (by omega) q3]
            simp only [at', List.getD_eq_getElem?_getD, List.append_assoc]
            rw [List.getElem?_append_right (by simp; omega), List.getElem?_append_right (by simp; omega), List.getElem?_append_left (by simp; omega)]
            simp only [List.getElem?_take, List.length_take]
            rw [if_pos (by simp; omega)]; simp; congr 2; omega
          · rw [h1 i (.inr (by omega))]
            simp only [at', List.getD_eq_getElem?_getD]
            rw [List.getElem?_append_right (by simp; omega)]
            simp; congr 2; omega
  have key := rng_blocks (P := l.take a) (U := (l.drop a).take (m - a)) (V := (l.drop m).take (b - m)) (Q := l.drop b) hS (by
    intro u hu v hv
    obtain ⟨i, hi, rfl⟩ := List.getElem_of_mem hu
    obtain ⟨j, hj, rfl⟩ := List.getElem_of_mem hv
    simp at hi hj
    have := h (a + i) (m + j) (by omega) (by omega) (by omega) (by omega)
    simp only [at', List.getD_eq_getElem?_getD] at this
    simp only [List.getElem_take, List.getElem_drop]
    rw [List.getElem?_eq_getElem (by omega), List.getElem?_eq_getElem (by omega)] at this
    exact this)
  rw [← e, ← e'] at key
  have q1 : (l.take a).length = a := by simp; omega
  have q2 : ((l.drop a).take (m - a)).length = m - a := by simp; omega
  have q3 : ((l.drop m).take (b - m)).length = b - m := by simp; omega
  rw [q1, q2, q3, show a + (m - a + (b - m)) = b by omega] at key
  exact key
theorem rng_swap (hS : SW lt) {l : List α} {a b i : Nat} (ha : a ≤ i) (hb : i + 1 < b) (hl : b ≤ l.length) (h : lt (at' l (i + 1)) (at' l i) = true) : Rng lt a b l (swp l (i + 1) i) := by
  refine Rng.mono (a := i) (b := i + 2) (rng_rot hS (m := i + 1) (by omega) (by omega) (by omega) (by simp) (fun k hk => ?_) (fun k h1 h2 => ?_) (fun k h1 h2 => ?_) (fun p q h1 h2 h3 h4 => ?_)) ha (by omega)
  · rw [swp_at (by omega) (by omega), if_neg (by omega), if_neg (by omega)]
  · obtain rfl : k = i := by omega
    rw [swp_at (by omega) (by omega), if_pos rfl]; congr 1; omega
  · obtain rfl : k = i + 1 := by omega
    rw [swp_at (by omega) (by omega), if_neg (by omega), if_pos rfl]; congr 1; omega
  · obtain rfl : p = i := by omega
    obtain rfl : q = p + 1 := by omega
    exact h
def Srt (lt : α → α → Bool) (a b : Nat) (l : List α) : Prop := ∀ i j, a ≤ i → i < j → j < b → lt (at' l j) (at' l i) = false
theorem Srt.out {a b p q : Nat} {l l' : List α} (h : Srt lt p q l) (k : Rng lt a b l l') (hd : q ≤ a ∨ b ≤ p) : Srt lt p q l' := by
  intro i j h1 h2 h3
  rw [k.out i (by omega), k.out j (by omega)]
  exact h i j h1 h2 h3
end
section
variable {α : Type} {lt : α → α → Bool}
theorem sorted_unique (hS : SW lt) : ∀ {s t : List α}, s.Pairwise (fun x y => lt y x = false) → t.Pairwise (fun x y => lt y x = false) → (∀ e, s.filter (eqv lt e) = t.filter (eqv lt e)) → s = t
  | [], [], _, _, _ => rfl
  | [], y :: t, _, _, h => by have := h y; simp [eqv, hS.irr] at this
  | x :: s, [], _, _, h => by have := h x; simp [eqv, hS.irr] at this
  | x :: s, y :: t, h1, h2, h => by
    have ex : eqv lt x x = true := by simp [eqv, hS.irr]
    have ey : eqv lt y y = true := by simp [eqv, hS.irr]
    have p1 : lt y x = false := by
      have hy : y ∈ (x :: s).filter (eqv lt y) := by rw [h y]; simp [ey]
      rw [List.mem_filter] at hy
      rcases List.mem_cons.1 hy.1 with e | e
      · rw [e]; exact hS.irr _
      · exact (List.pairwise_cons.1 h1).1 y e
    have p2 : lt x y = false := by
      have hx : x ∈ (y :: t).filter (eqv lt x) := by rw [← h x]; simp [ex]
      rw [List.mem_filter] at hx
      rcases List.mem_cons.1 hx.1 with e | e
      · rw [e]; exact hS.irr _
      · exact (List.pairwise_cons.1 h2).1 x e
    have exy : eqv lt x y = true := by simp [eqv, p1, p2]
    have hx := h x
    rw [List.filter_cons_of_pos ex, List.filter_cons_of_pos exy, List.cons.injEq] at hx
    obtain ⟨rfl, _⟩ := hx
    congr 1
    refine sorted_unique hS (List.pairwise_cons.1 h1).2 (List.pairwise_cons.1 h2).2 fun e => ?_
    have := h e
    cases he : eqv lt e x with
    | true => simpa [List.filter_cons_of_pos he] using this
    | false =>
      rw [List.filter_cons_of_neg (by simp [he]), List.filter_cons_of_neg (by simp [he])] at this
      exact this
end
section
variable {α : Type} [Inhabited α] {lt : α → α → Bool}
theorem srt_pairwise {l : List α} (h : Srt lt 0 l.length l) : l.Pairwise (fun x y => lt y x = false) := by
  rw [List.pairwise_iff_getElem]
  intro i j hi hj hij
  have := h i j (Nat.zero_le _) hij hj
  simpa [at', hi, hj] using this
end
end Nv
namespace Nv
open Go
section
variable {α : Type} [Inhabited α]
def ltc (c : α → α → Int) (x y : α) : Bool := decide (c x y < 0)
variable {cmp : α → α → Option Int} {c : α → α → Int}
theorem gdT {β : Type} {l : List Bool} {k : Option β} (h : l.all id = true) : gd l k = k := by unfold gd; rw [h]; rfl
theorem set_swp (l : List α) (i j : Nat) : ((l.set (0 + i) (l.getD (0 + j) default)).set (0 + j) (l.getD (0 + i) default)) = swp l i j := by simp [swp, at']
theorem ins2_step (hc : ∀ x y, cmp x y = some (c x y)) {l : List α} {a j : Nat} (hj : j < l.length) (hl : l.length ≤ 4611686018427387904) :
    Z.insertionSort_l2 cmp (a : Int) (l, (j : Int)) = bif decide (a < j) && ltc c (at' l j) (at' l (j - 1)) then some (.inl (swp l j (j - 1), ((j - 1 : Nat) : Int))) else some (.inr l) := by
  unfold Z.insertionSort_l2
  by_cases h : a < j
  · have w : wr .i64 ((j : Int) - 1) = ((j - 1 : Nat) : Int) := by rw [wrN (by omega) (by omega)]; omega
    have d : decide ((j : Int) > (a : Int)) = true := by simpa using h
    simp only [w, d, hc, gc, guardB, cond_true, Option.bind_some, Bool.true_and, Int.toNat_natCast]
    rw [gdT (by simp; omega), gdT (by simp; omega), set_swp]
    simp [h, ltc, at']
  · have d : decide ((j : Int) > (a : Int)) = false := by simp; omega
    simp only [d, gc, guardB, cond_false, Option.bind_some, Bool.false_and]
    rw [gdT (by simp)]
    simp [h]
theorem ins2 (hc : ∀ x y, cmp x y = some (c x y)) (hS : SW (ltc c)) {a i : Nat} : ∀ (j : Nat) (l : List α), a ≤ j → j ≤ i → i < l.length → l.length ≤ 4611686018427387904 →
    (∀ p q, a ≤ p → p < q → q ≤ i → q ≠ j → ltc c (at' l q) (at' l p) = false) → ∃ l', Iter (Z.insertionSort_l2 cmp (a : Int)) (l, (j : Int)) l' ∧ Rng (ltc c) a (i + 1) l l' ∧ Srt (ltc c) a (i + 1) l' := by
  intro j
  induction j with
  | zero =>
    intro l h1 h2 h3 h4 h5
    have := ins2_step (a := a) hc (l := l) (j := 0) (by omega) h4
    rw [show decide (a < 0) = false by simp] at this
    exact ⟨l, .out this, .refl _ _ _, fun p q q1 q2 q3 => h5 p q q1 q2 (by omega) (by omega)⟩
  | succ j ih =>
    intro l h1 h2 h3 h4 h5
    have st := ins2_step (a := a) hc (l := l) (j := j + 1) (by omega) h4
    rw [Nat.add_sub_cancel] at st
    cases hb : decide (a < j + 1) && ltc c (at' l (j + 1)) (at' l j) with
    | true =>
      rw [hb] at st
      simp only [Bool.and_eq_true, decide_eq_true_eq] at hb
      have hsw := fun k => swp_at (l := l) (i := j + 1) (j := j) (by omega) (by omega) k
      obtain ⟨l', i1, i2, i3⟩ := ih (swp l (j + 1) j) (by omega) (by omega) (by simpa using h3) (by simpa using h4) (by
        intro p q q1 q2 q3 q4
        rw [hsw p, hsw q, if_neg q4]
        by_cases e1 : q = j + 1
        · subst e1
          rw [if_pos rfl]
          by_cases e2 : p = j
          · subst e2; rw [if_pos rfl]; exact hS.asym hb.2
          · rw [if_neg e2, if_neg (by omega)]; exact h5 p j q1 (by omega) (by omega) (by omega)
        · rw [if_neg e1]
          by_cases e2 : p = j
          · subst e2; rw [if_pos rfl]; exact h5 (p + 1) q (by omega) (by omega) q3 (by omega)
          · rw [if_neg e2]
            by_cases e3 : p = j + 1
            · subst e3; rw [if_pos rfl]; exact h5 j q (by omega) (by omega) q3 (by omega)
            · rw [if_neg e3]; exact h5 p q q1 q2 q3 (by omega))
      exact ⟨l', .next st i1, (rng_swap hS (by omega) (by omega) (by omega) hb.2).trans i2, i3⟩
    | false =>
      rw [hb] at st
      refine ⟨l, .out st, .refl _ _ _, fun p q q1 q2 q3 => ?_⟩
      by_cases e : q = j + 1
      · subst e
        have h6 : ltc c (at' l (j + 1)) (at' l j) = false := by
          simp only [Bool.and_eq_false_iff, decide_eq_false_iff_not] at hb
          rcases hb with hb | hb
          · omega
          · exact hb
        by_cases e2 : p = j
        · subst e2; exact h6
        · exact hS.ntr _ _ _ h6 (h5 p j q1 (by omega) (by omega) (by omega))
      · exact h5 p q q1 q2 (by omega) e
theorem ins1 (hc : ∀ x y, cmp x y = some (c x y)) (hS : SW (ltc c)) {a b : Nat} : ∀ (k i : Nat) (l : List α), i + k = b → a < i → b ≤ l.length → l.length ≤ 4611686018427387904 → Srt (ltc c) a i l →
    ∃ l', Iter (Z.insertionSort_l1 cmp (a : Int) (b : Int)) (l, (i : Int)) l' ∧ Rng (ltc c) a b l l' ∧ Srt (ltc c) a b l' := by
  intro k
  induction k with
  | zero =>
    intro i l h1 h2 h3 h4 h5
    obtain rfl : i = b := by omega
    refine ⟨l, .out ?_, .refl _ _ _, h5⟩
    unfold Z.insertionSort_l1
    simp
  | succ k ih =>
    intro i l h1 h2 h3 h4 h5
    obtain ⟨l1, i1, i2, i3⟩ := ins2 hc hS (a := a) (i := i) i l (by omega) (by omega) (by omega) h4 (fun p q q1 q2 q3 q4 => h5 p q q1 q2 (by omega))
    obtain ⟨l2, j1, j2, j3⟩ := ih (i + 1) l1 (by omega) (by omega) (by rw [i2.len]; omega) (by rw [i2.len]; omega) i3
    refine ⟨l2, .next ?_ j1, (i2.mono (Nat.le_refl _) (by omega)).trans j2, j3⟩
    unfold Z.insertionSort_l1
    have w : wr .i64 ((i : Int) + 1) = ((i + 1 : Nat) : Int) := by rw [wrN (by omega) (by omega)]; omega
    simp only [loopM_of i1, w, Option.bind_some]
    rw [show decide ((i : Int) < (b : Int)) = true by simp; omega]
    rfl
theorem insS (hc : ∀ x y, cmp x y = some (c x y)) (hS : SW (ltc c)) {a b : Nat} {l : List α} (hab : a ≤ b) (hb : b ≤ l.length) (hl : l.length ≤ 4611686018427387904) :
    ∃ l', Z.insertionSort cmp l (a : Int) (b : Int) = some l' ∧ Rng (ltc c) a b l l' ∧ Srt (ltc c) a b l' := by
  have w : wr .i64 ((a : Int) + 1) = ((a + 1 : Nat) : Int) := by rw [wrN (by omega) (by omega)]; omega
  unfold Z.insertionSort
  rw [w]
  by_cases e : a + 1 ≤ b
  · obtain ⟨l', h1, h2, h3⟩ := ins1 hc hS (a := a) (b := b) (b - (a + 1)) (a + 1) l (by omega) (by omega) hb hl (fun p q q1 q2 q3 => by omega)
    refine ⟨l', ?_, h2, h3⟩
    rw [loopM_of h1, Option.bind_some, gdT (by simp [h2.len])]
  · refine ⟨l, ?_, .refl _ _ _, fun p q q1 q2 q3 => by omega⟩
    rw [loopM_of (y := l) (.out (by unfold Z.insertionSort_l1; rw [show decide (((a + 1 : Nat) : Int) < (b : Int)) = false by simp; omega]; rfl)), Option.bind_some, gdT (by simp)]
theorem swapR1 {a b n : Nat} : ∀ (k i : Nat) (l : List α), i + k = n → a + n ≤ b → b + n ≤ l.length → l.length ≤ 4611686018427387904 →
    ∃ l', Iter (Z.swapRange_l1 (a : Int) (b : Int) (n : Int)) (l, (i : Int)) l' ∧ l'.length = l.length ∧
      ∀ p, at' l' p = if a + i ≤ p ∧ p < a + n then at' l (p - a + b) else if b + i ≤ p ∧ p < b + n then at' l (p - b + a) else at' l p := by
  intro k
  induction k with
  | zero =>
    intro i l h1 h2 h3 h4
    refine ⟨l, .out ?_, rfl, fun p => ?_⟩
    · unfold Z.swapRange_l1
      rw [show decide ((i : Int) < (n : Int)) = false by simp; omega]
      rfl
    · rw [if_neg (by omega), if_neg (by omega)]
  | succ k ih =>
    intro i l h1 h2 h3 h4
    obtain ⟨l', j1, j2, j3⟩ := ih (i + 1) (swp l (a + i) (b + i)) (by omega) h2 (by simpa using h3) (by simpa using h4)
    refine ⟨l', .next ?_ j1, by simpa using j2, fun p => ?_⟩
    · unfold Z.swapRange_l1
      have w1 : wr .i64 ((i : Int) + 1) = ((i + 1 : Nat) : Int) := by rw [wrN (by omega) (by omega)]; omega
      have w2 : wr .i64 ((a : Int) + (i : Int)) = ((a + i : Nat) : Int) := by rw [wrN (by omega) (by omega)]; omega
      have w3 : wr .i64 ((b : Int) + (i : Int)) = ((b + i : Nat) : Int) := by rw [wrN (by omega) (by omega)]; omega
      simp only [w1, w2, w3, Int.toNat_natCast]
      rw [show decide ((i : Int) < (n : Int)) = true by simp; omega, cond_true, gdT (by simp; omega), set_swp]
    · rw [j3 p]
      have hsw := fun k => swp_at (l := l) (i := a + i) (j := b + i) (by omega) (by omega) k
      by_cases q1 : a + (i + 1) ≤ p ∧ p < a + n
      · rw [if_pos q1, if_pos (by omega), hsw, if_neg (by omega), if_neg (by omega)]
      · rw [if_neg q1]
        by_cases q2 : b + (i + 1) ≤ p ∧ p < b + n
        · rw [if_pos q2, if_neg (by omega), if_pos (by omega), hsw, if_neg (by omega), if_neg (by omega)]
        · rw [if_neg q2, hsw]
          by_cases q3 : p = b + i
          · subst q3; rw [if_pos rfl, if_neg (by omega), if_pos (by omega)]; congr 1; omega
          · rw [if_neg q3]
            by_cases q4 : p = a + i
            · subst q4; rw [if_pos rfl, if_pos (by omega)]; congr 1; omega
            · rw [if_neg q4, if_neg (by omega), if_neg (by omega)]
theorem swapR {a b n : Nat} {l : List α} (h2 : a + n ≤ b) (h3 : b + n ≤ l.length) (h4 : l.length ≤ 4611686018427387904) :
    ∃ l', Z.swapRange l (a : Int) (b : Int) (n : Int) = some l' ∧ l'.length = l.length ∧ ∀ p, at' l' p = if a ≤ p ∧ p < a + n then at' l (p - a + b) else if b ≤ p ∧ p < b + n then at' l (p - b + a) else at' l p := by
  obtain ⟨l', h5, h6, h7⟩ := swapR1 (a := a) (b := b) (n := n) n 0 l (by omega) h2 h3 h4
  refine ⟨l', ?_, h6, fun p => by simpa using h7 p⟩
  unfold Z.swapRange
  rw [show ((0 : Int)) = ((0 : Nat) : Int) from rfl, loopM_of h5, Option.bind_some, gdT (by simp [h6])]
def rotI (m i j k : Nat) : Nat := if m - i ≤ k ∧ k < m - i + j then k + i else if m - i + j ≤ k ∧ k < m + j then k - j else k
theorem rot1 {m : Nat} : ∀ (s i j : Nat) (l : List α), i + j ≤ s → 0 < i → 0 < j → i ≤ m → m + j ≤ l.length → l.length ≤ 4611686018427387904 →
    ∃ (i' : Nat) (l' : List α), Iter (Z.rotate_l1 (m : Int)) (l, (i : Int), (j : Int)) ((i' : Int), l') ∧ 0 < i' ∧ i' ≤ i ∧ i' ≤ j ∧ l'.length = l.length ∧ ∀ k, at' l (rotI m i j k) = at' l' (rotI m i' i' k) := by
  intro s
  induction s with
  | zero => intro i j l h; omega
  | succ s ih =>
    intro i j l h1 h2 h3 h4 h5 h6
    by_cases e : i = j
    · subst e
      refine ⟨i, l, .out ?_, h2, Nat.le_refl _, Nat.le_refl _, rfl, fun _ => rfl⟩
      unfold Z.rotate_l1
      simp
    · have ne : (((i : Int)) != ((j : Int))) = true := by simp; omega
      have w1 : wr .i64 ((m : Int) - (i : Int)) = ((m - i : Nat) : Int) := by rw [wrN (by omega) (by omega)]; omega
      by_cases g : j < i
      · have w2 : wr .i64 ((i : Int) - (j : Int)) = ((i - j : Nat) : Int) := by rw [wrN (by omega) (by omega)]; omega
        obtain ⟨l1, q1, q2, q3⟩ := swapR (a := m - i) (b := m) (n := j) (l := l) (by omega) (by omega) h6
        obtain ⟨i', l', r1, r2, r3, r4, r5, r6⟩ := ih (i - j) j l1 (by omega) (by omega) h3 (by omega) (by omega) (by omega)
        refine ⟨i', l', .next ?_ r1, r2, by omega, r4, by omega, fun k => ?_⟩
        · unfold Z.rotate_l1
          simp only [ne, w1, w2, q1, cond_true, Option.bind_some]
          rw [show decide ((i : Int) > (j : Int)) = true by simp; omega, cond_true, gdT (by simp [q2])]
        · rw [← r6 k, q3]
          unfold rotI
          by_cases c1 : m - i ≤ k ∧ k < m - i + j
          · rw [if_pos c1, if_neg (c := m - (i - j) ≤ k ∧ k < m - (i - j) + j) (by omega), if_neg (c := m - (i - j) + j ≤ k ∧ k < m + j) (by omega), if_pos (by omega)]; congr 1; omega
          · rw [if_neg c1]
            by_cases c2 : m - i + j ≤ k ∧ k < m + j
            · rw [if_pos c2]
              by_cases c3 : k < m - i + j + j
              · rw [if_pos (c := m - (i - j) ≤ k ∧ k < m - (i - j) + j) (by omega), if_neg (by omega), if_pos (by omega)]; congr 1; omega
              · rw [if_neg (c := m - (i - j) ≤ k ∧ k < m - (i - j) + j) (by omega), if_pos (c := m - (i - j) + j ≤ k ∧ k < m + j) (by omega), if_neg (by omega), if_neg (by omega)]
            · rw [if_neg c2, if_neg (c := m - (i - j) ≤ k ∧ k < m - (i - j) + j) (by omega), if_neg (c := m - (i - j) + j ≤ k ∧ k < m + j) (by omega), if_neg (by omega), if_neg (by omega)]
      · have w2 : wr .i64 ((j : Int) - (i : Int)) = ((j - i : Nat) : Int) := by rw [wrN (by omega) (by omega)]; omega
        have w3 : wr .i64 ((m : Int) + (j : Int)) = ((m + j : Nat) : Int) := by rw [wrN (by omega) (by omega)]; omega
        have w4 : wr .i64 (((m + j : Nat) : Int) - (i : Int)) = ((m + j - i : Nat) : Int) := by rw [wrN (by omega) (by omega)]; omega
        obtain ⟨l1, q1, q2, q3⟩ := swapR (a := m - i) (b := m + j - i) (n := i) (l := l) (by omega) (by omega) h6
        obtain ⟨i', l', r1, r2, r3, r4, r5, r6⟩ := ih i (j - i) l1 (by omega) h2 (by omega) h4 (by omega) (by omega)
        refine ⟨i', l', .next ?_ r1, r2, r3, by omega, by omega, fun k => ?_⟩
        · unfold Z.rotate_l1
          simp only [ne, w1, w2, w3, w4, q1, cond_true, Option.bind_some]
          rw [show decide ((i : Int) > (j : Int)) = false by simp; omega, cond_false, gdT (by simp [q2])]
        · rw [← r6 k, q3]
          unfold rotI
          by_cases c1 : m - i ≤ k ∧ k < m - i + j
          · rw [if_pos c1]
            by_cases c3 : k < m - i + (j - i)
            · rw [if_pos (c := m - i ≤ k ∧ k < m - i + (j - i)) (by omega), if_neg (by omega), if_neg (by omega)]
            · rw [if_neg (c := m - i ≤ k ∧ k < m - i + (j - i)) (by omega), if_pos (c := m - i + (j - i) ≤ k ∧ k < m + (j - i)) (by omega), if_pos (by omega)]; congr 1; omega
          · rw [if_neg c1]
            by_cases c2 : m - i + j ≤ k ∧ k < m + j
            · rw [if_pos c2, if_neg (c := m - i ≤ k ∧ k < m - i + (j - i)) (by omega), if_neg (c := m - i + (j - i) ≤ k ∧ k < m + (j - i)) (by omega), if_neg (by omega), if_pos (by omega)]; congr 1; omega
            · rw [if_neg c2, if_neg (c := m - i ≤ k ∧ k < m - i + (j - i)) (by omega), if_neg (c := m - i + (j - i) ≤ k ∧ k < m + (j - i)) (by omega), if_neg (by omega), if_neg (by omega)]
theorem rotS {a m b : Nat} {l : List α} (h1 : a < m) (h2 : m < b) (h3 : b ≤ l.length) (h4 : l.length ≤ 4611686018427387904) :
    ∃ l', Z.rotate l (a : Int) (m : Int) (b : Int) = some l' ∧ l'.length = l.length ∧ ∀ k, at' l' k = at' l (rotI m (m - a) (b - m) k) := by
  obtain ⟨i', l1, r1, r2, r3, r4, r5, r6⟩ := rot1 (m := m) ((m - a) + (b - m)) (m - a) (b - m) l (by omega) (by omega) (by omega) (by omega) (by omega) h4
  obtain ⟨l2, q1, q2, q3⟩ := swapR (a := m - i') (b := m) (n := i') (l := l1) (by omega) (by omega) (by omega)
  refine ⟨l2, ?_, by omega, fun k => ?_⟩
  · unfold Z.rotate
    have w1 : wr .i64 ((m : Int) - (a : Int)) = ((m - a : Nat) : Int) := by rw [wrN (by omega) (by omega)]; omega
    have w2 : wr .i64 ((b : Int) - (m : Int)) = ((b - m : Nat) : Int) := by rw [wrN (by omega) (by omega)]; omega
    have w3 : wr .i64 ((m : Int) - (i' : Int)) = ((m - i' : Nat) : Int) := by rw [wrN (by omega) (by omega)]; omega
    rw [w1, w2, loopM_of r1]
    simp only [Option.bind_some, w3, q1]
    rw [gdT (by simp [q2]), gdT (by simp [q2, r5])]
  · rw [r6 k, q3]
    unfold rotI
    by_cases c1 : m - i' ≤ k ∧ k < m - i' + i'
    · rw [if_pos c1, if_pos c1]; congr 1; omega
    · rw [if_neg c1, if_neg c1]
      by_cases c2 : m ≤ k ∧ k < m + i'
      · rw [if_pos c2, if_pos (by omega)]; congr 1; omega
      · rw [if_neg c2, if_neg (by omega)]
theorem rotR (hS : SW (ltc c)) {a m b : Nat} {l : List α} (h1 : a < m) (h2 : m < b) (h3 : b ≤ l.length) (h4 : l.length ≤ 4611686018427387904)
    (h : ∀ i j, a ≤ i → i < m → m ≤ j → j < b → ltc c (at' l j) (at' l i) = true) : ∃ l', Z.rotate l (a : Int) (m : Int) (b : Int) = some l' ∧ Rng (ltc c) a b l l' ∧
      (∀ k, a ≤ k → k < a + (b - m) → at' l' k = at' l (k + (m - a))) ∧ (∀ k, a + (b - m) ≤ k → k < b → at' l' k = at' l (k - (b - m))) := by
  obtain ⟨l', q1, q2, q3⟩ := rotS h1 h2 h3 h4
  have p2 : ∀ k, a ≤ k → k < a + (b - m) → at' l' k = at' l (k + (m - a)) := fun k k1 k2 => by
    rw [q3]; unfold rotI; rw [if_pos (by omega)]
  have p3 : ∀ k, a + (b - m) ≤ k → k < b → at' l' k = at' l (k - (b - m)) := fun k k1 k2 => by
    rw [q3]; unfold rotI; rw [if_neg (by omega), if_pos (by omega)]
  refine ⟨l', q1, rng_rot hS (by omega) (by omega) h3 q2 (fun k hk => ?_) p2 p3 h, p2, p3⟩
  rw [q3]; unfold rotI; rw [if_neg (by omega), if_neg (by omega)]
end
end Nv
namespace Nv
open Go
section
variable {α : Type} [Inhabited α] {cmp : α → α → Option Int} {c : α → α → Int}
theorem bs {f : Int × Int → Option ((Int × Int) ⊕ Int)} {pr : Nat → Bool} {lo hi : Nat} (hf : ∀ i j : Nat, lo ≤ i → i < j → j ≤ hi → f ((i : Int), (j : Int)) = bif pr ((i + j) / 2) then some (.inl ((((i + j) / 2 + 1 : Nat) : Int), (j : Int))) else some (.inl ((i : Int), (((i + j) / 2 : Nat) : Int))))
    (he : ∀ i : Nat, f ((i : Int), (i : Int)) = some (.inr (i : Int))) : ∀ (s i j : Nat), j - i ≤ s → lo ≤ i → i ≤ j → j ≤ hi → (i = lo ∨ pr (i - 1) = true) → (j = hi ∨ pr j = false) →
      ∃ r : Nat, Iter f ((i : Int), (j : Int)) (r : Int) ∧ lo ≤ r ∧ r ≤ hi ∧ (r = lo ∨ pr (r - 1) = true) ∧ (r = hi ∨ pr r = false) := by
  intro s
  induction s with
  | zero =>
    intro i j h1 h2 h3 h4 h5 h6
    obtain rfl : i = j := by omega
    exact ⟨i, .out (he i), h2, h4, h5, h6⟩
  | succ s ih =>
    intro i j h1 h2 h3 h4 h5 h6
    by_cases e : i = j
    · subst e; exact ⟨i, .out (he i), h2, h4, h5, h6⟩
    · have hs := hf i j h2 (by omega) h4
      cases hp : pr ((i + j) / 2) with
      | true =>
        rw [hp] at hs
        obtain ⟨r, r1, r2⟩ := ih ((i + j) / 2 + 1) j (by omega) (by omega) (by omega) h4 (.inr (by simpa using hp)) h6
        exact ⟨r, .next hs r1, r2⟩
      | false =>
        rw [hp] at hs
        obtain ⟨r, r1, r2⟩ := ih i ((i + j) / 2) (by omega) h2 (by omega) (by omega) h5 (.inr hp)
        exact ⟨r, .next hs r1, r2⟩
theorem swp_comm {l : List α} {i j : Nat} (hi : i < l.length) (hj : j < l.length) : swp l i j = swp l j i := by
  apply ext_at (by simp)
  intro k _
  rw [swp_at hi hj, swp_at hj hi]
  by_cases h1 : k = j
  · subst h1
    by_cases h2 : k = i
    · subst h2; simp
    · simp [h2]
  · by_cases h2 : k = i
    · subst h2; rw [if_neg h1, if_pos rfl, if_pos rfl]
    · rw [if_neg h1, if_neg h2, if_neg h2, if_neg h1]
theorem shiftF (hS : SW (ltc c)) {e : Nat} : ∀ (s k : Nat) (l : List α), k + s + 1 = e → e ≤ l.length → l.length ≤ 4611686018427387904 → (∀ q, k < q → q < e → ltc c (at' l q) (at' l k) = true) →
    ∃ l', Iter (Z.symMerge_l2 (e : Int)) (l, (k : Int)) l' ∧ Rng (ltc c) k e l l' ∧ (∀ q, k ≤ q → q + 1 < e → at' l' q = at' l (q + 1)) ∧ at' l' (e - 1) = at' l k := by
  intro s
  induction s with
  | zero =>
    intro k l h1 h2 h3 h4
    refine ⟨l, .out ?_, .refl _ _ _, fun q q1 q2 => by omega, by congr 1; omega⟩
    unfold Z.symMerge_l2
    rw [show wr .i64 ((e : Int) - 1) = ((e - 1 : Nat) : Int) by rw [wrN (by omega) (by omega)]; omega, show decide ((k : Int) < ((e - 1 : Nat) : Int)) = false by simp; omega]
    rfl
  | succ s ih =>
    intro k l h1 h2 h3 h4
    have hsw := fun q => swp_at (l := l) (i := k) (j := k + 1) (by omega) (by omega) q
    obtain ⟨l', i1, i2, i3, i4⟩ := ih (k + 1) (swp l k (k + 1)) (by omega) (by simpa using h2) (by simpa using h3) (by
      intro q q1 q2
      rw [hsw q, hsw (k + 1), if_neg (by omega), if_neg (by omega), if_pos rfl]
      exact h4 q (by omega) q2)
    have r1 : Rng (ltc c) k e l (swp l k (k + 1)) := by
      rw [swp_comm (by omega) (by omega)]
      exact rng_swap hS (Nat.le_refl _) (by omega) h2 (h4 (k + 1) (by omega) (by omega))
    refine ⟨l', .next ?_ i1, r1.trans (i2.mono (by omega) (Nat.le_refl _)), fun q q1 q2 => ?_, ?_⟩
    · unfold Z.symMerge_l2
      have w1 : wr .i64 ((k : Int) + 1) = ((k + 1 : Nat) : Int) := by rw [wrN (by omega) (by omega)]; omega
      have w2 : wr .i64 ((e : Int) - 1) = ((e - 1 : Nat) : Int) := by rw [wrN (by omega) (by omega)]; omega
      simp only [w1, w2, Int.toNat_natCast]
      rw [show decide ((k : Int) < ((e - 1 : Nat) : Int)) = true by simp; omega, cond_true, gdT (by simp; omega), set_swp]
    · by_cases e1 : q = k
      · subst e1; rw [i2.out q (by omega), hsw, if_neg (by omega), if_pos rfl]
      · rw [i3 q (by omega) q2, hsw, if_neg (by omega), if_neg (by omega)]
    · rw [i4, hsw, if_pos rfl]
theorem shiftB (hS : SW (ltc c)) {e : Nat} : ∀ (s k : Nat) (l : List α), e + s = k → k < l.length → l.length ≤ 4611686018427387904 → (∀ q, e ≤ q → q < k → ltc c (at' l k) (at' l q) = true) →
    ∃ l', Iter (Z.symMerge_l4 (e : Int)) (l, (k : Int)) l' ∧ Rng (ltc c) e (k + 1) l l' ∧ (∀ q, e < q → q ≤ k → at' l' q = at' l (q - 1)) ∧ at' l' e = at' l k := by
  intro s
  induction s with
  | zero =>
    intro k l h1 h2 h3 h4
    refine ⟨l, .out ?_, .refl _ _ _, fun q q1 q2 => by omega, by rw [show e = k by omega]⟩
    unfold Z.symMerge_l4
    rw [show decide ((k : Int) > (e : Int)) = false by simp; omega]
    rfl
  | succ s ih =>
    intro k l h1 h2 h3 h4
    have hsw := fun q => swp_at (l := l) (i := k) (j := k - 1) (by omega) (by omega) q
    obtain ⟨l', i1, i2, i3, i4⟩ := ih (k - 1) (swp l k (k - 1)) (by omega) (by rw [swp_len]; omega) (by simpa using h3) (by
      intro q q1 q2
      rw [hsw q, hsw (k - 1), if_pos rfl, if_neg (by omega), if_neg (by omega)]
      exact h4 q q1 (by omega))
    have r1 : Rng (ltc c) e (k + 1) l (swp l k (k - 1)) := by
      have := rng_swap hS (l := l) (a := e) (b := k + 1) (i := k - 1) (by omega) (by omega) (by omega) (by rw [show k - 1 + 1 = k by omega]; exact h4 (k - 1) (by omega) (by omega))
      rwa [show k - 1 + 1 = k by omega] at this
    refine ⟨l', .next ?_ i1, r1.trans (i2.mono (Nat.le_refl _) (by omega)), fun q q1 q2 => ?_, ?_⟩
    · unfold Z.symMerge_l4
      have w1 : wr .i64 ((k : Int) - 1) = ((k - 1 : Nat) : Int) := by rw [wrN (by omega) (by omega)]; omega
      simp only [w1, Int.toNat_natCast]
      rw [show decide ((k : Int) > (e : Int)) = true by simp; omega, cond_true, gdT (by simp; omega), set_swp]
    · by_cases e1 : q = k
      · subst e1; rw [i2.out q (by omega), hsw, if_neg (by omega), if_pos rfl]
      · rw [i3 q q1 (by omega), hsw, if_neg (by omega), if_neg (by omega)]
    · rw [i4, hsw, if_pos rfl]
def Good (c : α → α → Int) (a b : Nat) (l r : List α) : Prop := Rng (ltc c) a b l r ∧ Srt (ltc c) a b r
theorem sym_one (hc : ∀ x y, cmp x y = some (c x y)) (hS : SW (ltc c)) {l : List α} {a m b : Nat} (h1 : m = a + 1) (h2 : m < b) (h3 : b ≤ l.length) (h4 : l.length ≤ 4611686018427387904) (s2 : Srt (ltc c) m b l) :
    ∃ r, ((loopM (Z.symMerge_l1 cmp l (a : Int)) ((m : Int), (b : Int))).bind fun y4 => (loopM (Z.symMerge_l2 y4) (l, (a : Int))).bind fun y7 => gd [decide (y7.length = l.length)] (some y7)) = some r ∧ Good c a b l r := by
  obtain ⟨i, i1, i2, i3, i4, i5⟩ := bs (f := Z.symMerge_l1 cmp l (a : Int)) (pr := fun h => ltc c (at' l h) (at' l a)) (lo := m) (hi := b) (by
      intro i j q1 q2 q3
      unfold Z.symMerge_l1
      have w := half (i := i) (j := j) (by omega)
      have w2 : wr .i64 ((((i + j) / 2 : Nat) : Int) + 1) = (((i + j) / 2 + 1 : Nat) : Int) := by rw [wrN (by omega) (by omega)]; omega
      simp only [w, w2, hc, Int.toNat_natCast, Nat.zero_add, Option.bind_some]
      rw [show decide ((i : Int) < (j : Int)) = true by simp; omega, cond_true, gdT (by simp), gdT (by simp; omega)]
      rfl) (by
      intro i
      unfold Z.symMerge_l1
      simp) (b - m) m b (by omega) (Nat.le_refl _) (by omega) (Nat.le_refl _) (.inl rfl) (.inl rfl)
  have below : ∀ q, m ≤ q → q < i → ltc c (at' l q) (at' l a) = true := by
    intro q q1 q2
    rcases i4 with e | e
    · omega
    · by_cases e2 : q = i - 1
      · subst e2; exact e
      · exact hS.lt_of_le_lt (s2 q (i - 1) q1 (by omega) (by omega)) e
  obtain ⟨r, r1, r2, r3, r4⟩ := shiftF hS (e := i) (i - a - 1) a l (by omega) (by omega) h4 (fun q q1 q2 => below q (by omega) q2)
  refine ⟨r, ?_, r2.mono (Nat.le_refl _) i3, fun p q q1 q2 q3 => ?_⟩
  · rw [loopM_of i1, Option.bind_some, loopM_of r1, Option.bind_some, gdT (by simp [r2.len])]
  · have hx : ∀ q, i ≤ q → q < b → ltc c (at' l q) (at' l a) = false := by
      intro q q1 q2
      rcases i5 with e | e
      · omega
      · by_cases e2 : q = i
        · subst e2; exact e
        · exact hS.ntr _ _ _ (s2 i q (by omega) (by omega) q2) e
    by_cases c1 : q < i - 1
    · rw [r3 p (by omega) (by omega), r3 q (by omega) (by omega)]
      exact s2 _ _ (by omega) (by omega) (by omega)
    · by_cases c2 : q = i - 1
      · subst c2
        rw [r4, r3 p (by omega) (by omega)]
        exact hS.asym (below (p + 1) (by omega) (by omega))
      · rw [r2.out q (by omega)]
        by_cases c3 : p < i - 1
        · rw [r3 p (by omega) (by omega)]; exact s2 _ _ (by omega) (by omega) q3
        · by_cases c4 : p = i - 1
          · subst c4; rw [r4]; exact hx q (by omega) q3
          · rw [r2.out p (by omega)]; exact s2 p q (by omega) q2 q3
theorem sym_last (hc : ∀ x y, cmp x y = some (c x y)) (hS : SW (ltc c)) {l : List α} {a m b : Nat} (h1 : a < m) (h2 : b = m + 1) (h3 : b ≤ l.length) (h4 : l.length ≤ 4611686018427387904) (s1 : Srt (ltc c) a m l) :
    ∃ r, ((loopM (Z.symMerge_l3 cmp l (m : Int)) ((a : Int), (m : Int))).bind fun y11 => (loopM (Z.symMerge_l4 y11) (l, (m : Int))).bind fun y14 => gd [decide (y14.length = l.length)] (some y14)) = some r ∧ Good c a b l r := by
  obtain ⟨i, i1, i2, i3, i4, i5⟩ := bs (f := Z.symMerge_l3 cmp l (m : Int)) (pr := fun h => !ltc c (at' l m) (at' l h)) (lo := a) (hi := m) (by
      intro i j q1 q2 q3
      unfold Z.symMerge_l3
      have w := half (i := i) (j := j) (by omega)
      have w2 : wr .i64 ((((i + j) / 2 : Nat) : Int) + 1) = (((i + j) / 2 + 1 : Nat) : Int) := by rw [wrN (by omega) (by omega)]; omega
      simp only [w, w2, hc, Int.toNat_natCast, Nat.zero_add, Option.bind_some]
      rw [show decide ((i : Int) < (j : Int)) = true by simp; omega, cond_true, gdT (by simp), gdT (by simp; omega)]
      rfl) (by
      intro i
      unfold Z.symMerge_l3
      simp) (m - a) a m (by omega) (Nat.le_refl _) (by omega) (Nat.le_refl _) (.inl rfl) (.inl rfl)
  simp only [Bool.not_eq_true', Bool.not_eq_false'] at i4 i5
  have above : ∀ q, i ≤ q → q < m → ltc c (at' l m) (at' l q) = true := by
    intro q q1 q2
    rcases i5 with e | e
    · omega
    · by_cases e2 : q = i
      · subst e2; exact e
      · exact hS.lt_of_lt_le e (s1 i q i2 (by omega) q2)
  obtain ⟨r, r1, r2, r3, r4⟩ := shiftB hS (e := i) (m - i) m l (by omega) (by omega) h4 above
  refine ⟨r, ?_, r2.mono i2 (by omega), fun p q q1 q2 q3 => ?_⟩
  · rw [loopM_of i1, Option.bind_some, loopM_of r1, Option.bind_some, gdT (by simp [r2.len])]
  · have hx : ∀ q, a ≤ q → q < i → ltc c (at' l m) (at' l q) = false := by
      intro q q1 q2
      rcases i4 with e | e
      · omega
      · by_cases e2 : q = i - 1
        · subst e2; exact e
        · exact hS.ntr _ _ _ e (s1 q (i - 1) q1 (by omega) (by omega))
    by_cases c1 : i < p
    · rw [r3 p (by omega) (by omega), r3 q (by omega) (by omega)]
      exact s1 _ _ (by omega) (by omega) (by omega)
    · by_cases c2 : p = i
      · subst c2
        rw [r4, r3 q (by omega) (by omega)]
        exact hS.asym (above (q - 1) (by omega) (by omega))
      · rw [r2.out p (by omega)]
        by_cases c3 : i < q
        · rw [r3 q (by omega) (by omega)]; exact (by
            by_cases e : p = q - 1
            · subst e; omega
            · exact s1 _ _ q1 (by omega) (by omega))
        · by_cases c4 : q = i
          · subst c4; rw [r4]; exact hx p q1 (by omega)
          · rw [r2.out q (by omega)]; exact s1 p q q1 q2 (by omega)
def Half (c : α → α → Int) (n : Nat) (self : List α → Int → Int → Int → Option (List α)) : Prop :=
  ∀ (l : List α) (a m b : Nat), a < m → m < b → b ≤ l.length → l.length ≤ 4611686018427387904 → Srt (ltc c) a m l → Srt (ltc c) m b l →
    (∃ r, self l (a : Int) (m : Int) (b : Int) = some r ∧ Good c a b l r) ∨ (self l (a : Int) (m : Int) (b : Int) = none ∧ n ≤ b - a)
theorem sym_k (hS : SW (ltc c)) {n : Nat} {self : List α → Int → Int → Int → Option (List α)} (ih : Half c n self) {l l1 : List α} {a m b s : Nat} (h1 : a + 1 < b) (hm : m ≤ b) (h3 : b ≤ l.length) (h4 : l.length ≤ 4611686018427387904)
    (hs1 : a ≤ s) (hs2 : s ≤ m) (hs3 : s ≤ (a + b) / 2) (he : (a + b) / 2 + m - s ≤ b) (R : Rng (ltc c) a b l l1) (f1 : Srt (ltc c) a s l1) (f2 : Srt (ltc c) s ((a + b) / 2) l1) (f3 : Srt (ltc c) ((a + b) / 2) ((a + b) / 2 + m - s) l1) (f4 : Srt (ltc c) ((a + b) / 2 + m - s) b l1)
    (x : ∀ i j, a ≤ i → i < (a + b) / 2 → (a + b) / 2 ≤ j → j < b → ltc c (at' l1 j) (at' l1 i) = false) :
    (∃ r, Z.symMerge_k2 self l (a : Int) (m : Int) (b : Int) (s : Int) l1 = some r ∧ Good c a b l r) ∨ (Z.symMerge_k2 self l (a : Int) (m : Int) (b : Int) (s : Int) l1 = none ∧ n + 1 ≤ b - a) := by
  have w := half (i := a) (j := b) (by omega)
  have w1 : wr .i64 ((((a + b) / 2 : Nat) : Int) + (m : Int)) = (((a + b) / 2 + m : Nat) : Int) := by rw [wrN (by omega) (by omega)]; omega
  have w2 : wr .i64 ((((a + b) / 2 + m : Nat) : Int) - (s : Int)) = (((a + b) / 2 + m - s : Nat) : Int) := by rw [wrN (by omega) (by omega)]; omega
  generalize hq : (a + b) / 2 = q at *
  -- the second half
  have k3 : ∀ r1 : List α, Rng (ltc c) a q l1 r1 → Srt (ltc c) a q r1 → (∃ r, Z.symMerge_k3 self l (a : Int) (m : Int) (b : Int) (s : Int) r1 = some r ∧ Good c a b l r) ∨ (Z.symMerge_k3 self l (a : Int) (m : Int) (b : Int) (s : Int) r1 = none ∧ n + 1 ≤ b - a) := by
    intro r1 R1 S1
    have fin : ∀ r2, Rng (ltc c) q b r1 r2 → Srt (ltc c) q b r2 → Good c a b l r2 := by
      intro r2 R2 S2
      refine ⟨R.trans ((R1.mono (Nat.le_refl _) (by omega)).trans (R2.mono (by omega) (Nat.le_refl _))), fun i j i1 i2 i3 => ?_⟩
      by_cases c1 : j < q
      · rw [R2.out i (by omega), R2.out j (by omega)]; exact S1 i j i1 i2 c1
      · by_cases c2 : q ≤ i
        · exact S2 i j c2 i2 i3
        · rw [R2.out i (by omega)]
          obtain ⟨i', p1, p2, p3⟩ := R1.src i i1 (by omega)
          obtain ⟨j', q1, q2, q3⟩ := R2.src j (by omega) i3
          rw [p3, q3, R1.out j' (by omega)]
          exact x i' j' p1 p2 q1 q2
    unfold Z.symMerge_k3
    simp only [w, w1, w2]
    by_cases e1 : q < q + m - s ∧ q + m - s < b
    · rw [show (decide ((q : Int) < ((q + m - s : Nat) : Int)) && decide (((q + m - s : Nat) : Int) < (b : Int))) = true by simp; omega, cond_true]
      rcases ih r1 q (q + m - s) b e1.1 e1.2 (by rw [R1.len, R.len]; omega) (by rw [R1.len, R.len]; omega) (f3.out R1 (.inr (Nat.le_refl _))) (f4.out R1 (.inr (by omega))) with ⟨r, r1e, r2, r3⟩ | ⟨r1e, r2⟩
      · refine .inl ⟨r, ?_, fin r r2 r3⟩
        rw [r1e, Option.bind_some, gdT (by simp [r2.len]), gdT (by simp [r2.len, R1.len, R.len])]
      · refine .inr ⟨?_, by omega⟩
        rw [r1e]; rfl
    · rw [show (decide ((q : Int) < ((q + m - s : Nat) : Int)) && decide (((q + m - s : Nat) : Int) < (b : Int))) = false by simp only [Bool.and_eq_false_iff, decide_eq_false_iff_not]; omega, cond_false]
      refine .inl ⟨r1, by rw [gdT (by simp [R1.len, R.len])], fin r1 (.refl _ _ _) ?_⟩
      by_cases e2 : q < q + m - s
      · have : q + m - s = b := by omega
        rw [this] at f3; exact f3.out R1 (.inr (Nat.le_refl _))
      · have : q + m - s = q := by omega
        rw [this] at f4; exact f4.out R1 (.inr (Nat.le_refl _))
  unfold Z.symMerge_k2
  simp only [w]
  by_cases e1 : a < s ∧ s < q
  · rw [show (decide ((a : Int) < (s : Int)) && decide ((s : Int) < (q : Int))) = true by simp; omega, cond_true]
    rcases ih l1 a s q e1.1 e1.2 (by rw [R.len]; omega) (by rw [R.len]; omega) f1 f2 with ⟨r, r1e, r2, r3⟩ | ⟨r1e, r2⟩
    · rw [r1e, Option.bind_some, gdT (by simp [r2.len])]
      exact k3 r r2 r3
    · refine .inr ⟨?_, by omega⟩
      rw [r1e]; rfl
  · rw [show (decide ((a : Int) < (s : Int)) && decide ((s : Int) < (q : Int))) = false by simp only [Bool.and_eq_false_iff, decide_eq_false_iff_not]; omega, cond_false]
    refine k3 l1 (.refl _ _ _) ?_
    by_cases e2 : a < s
    · have : s = q := by omega
      rw [← this]; exact f1
    · have : s = a := by omega
      rw [← this]; exact f2
theorem sym_k1 (hc : ∀ x y, cmp x y = some (c x y)) (hS : SW (ltc c)) {n : Nat} {self : List α → Int → Int → Int → Option (List α)} (ih : Half c n self) {l : List α} {a m b lo hi : Nat} (ham : a < m) (hmb : m < b) (h3 : b ≤ l.length) (h4 : l.length ≤ 4611686018427387904)
    (s1 : Srt (ltc c) a m l) (s2 : Srt (ltc c) m b l) (hlo : a ≤ lo) (hlh : lo ≤ hi) (hhi : hi ≤ m) (hq : hi ≤ (a + b) / 2) (hen : (a + b) / 2 + m - lo ≤ b) (dlo : lo = a ∨ (a + b) / 2 + m - lo = b) (dhi : hi = m ∨ hi = (a + b) / 2) :
    (∃ r, Z.symMerge_k1 cmp self l (a : Int) (m : Int) (b : Int) ((lo : Int), (hi : Int)) = some r ∧ Good c a b l r) ∨ (Z.symMerge_k1 cmp self l (a : Int) (m : Int) (b : Int) ((lo : Int), (hi : Int)) = none ∧ n + 1 ≤ b - a) := by
  have w := half (i := a) (j := b) (by omega)
  have w1 : wr .i64 ((((a + b) / 2 : Nat) : Int) + (m : Int)) = (((a + b) / 2 + m : Nat) : Int) := by rw [wrN (by omega) (by omega)]; omega
  have w3 : wr .i64 ((((a + b) / 2 + m : Nat) : Int) - 1) = (((a + b) / 2 + m - 1 : Nat) : Int) := by rw [wrN (by omega) (by omega)]; omega
  generalize hqq : (a + b) / 2 = q at *
  obtain ⟨s, i1, i2, i3, i4, i5⟩ := bs (f := Z.symMerge_l5 cmp l (a : Int) (m : Int) (b : Int)) (pr := fun h => !ltc c (at' l (q + m - 1 - h)) (at' l h)) (lo := lo) (hi := hi) (by
      intro i j q1 q2 q3
      unfold Z.symMerge_l5
      have v := half (i := i) (j := j) (by omega)
      have v2 : wr .i64 ((((i + j) / 2 : Nat) : Int) + 1) = (((i + j) / 2 + 1 : Nat) : Int) := by rw [wrN (by omega) (by omega)]; omega
      have v3 : wr .i64 (((q + m - 1 : Nat) : Int) - (((i + j) / 2 : Nat) : Int)) = ((q + m - 1 - (i + j) / 2 : Nat) : Int) := by rw [wrN (by omega) (by omega)]; omega
      simp only [w, w1, w3, v, v2, v3, hc, Int.toNat_natCast, Nat.zero_add, Option.bind_some]
      rw [show decide ((i : Int) < (j : Int)) = true by simp; omega, cond_true, gdT (by simp), gdT (by simp; omega)]
      rfl) (by
      intro i
      unfold Z.symMerge_l5
      simp) (hi - lo) lo hi (by omega) (Nat.le_refl _) hlh (Nat.le_refl _) (.inl rfl) (.inl rfl)
  simp only [Bool.not_eq_true', Bool.not_eq_false'] at i4 i5
  have w2 : wr .i64 (((q + m : Nat) : Int) - (s : Int)) = ((q + m - s : Nat) : Int) := by rw [wrN (by omega) (by omega)]; omega
  -- what the search has found
  have c2 : a < s → q + m - s < b → ltc c (at' l (q + m - s)) (at' l (s - 1)) = false := by
    intro p1 p2
    rcases i4 with e | e
    · omega
    · rwa [show q + m - 1 - (s - 1) = q + m - s by omega] at e
  have c3 : s < m → m < q + m - s → ltc c (at' l (q + m - s - 1)) (at' l s) = true := by
    intro p1 p2
    rcases i5 with e | e
    · omega
    · rwa [show q + m - 1 - s = q + m - s - 1 by omega] at e
  have VU : ∀ i j, s ≤ i → i < m → m ≤ j → j < q + m - s → ltc c (at' l j) (at' l i) = true := by
    intro i j p1 p2 p3 p4
    have h0 := c3 (by omega) (by omega)
    have h5 : ltc c (at' l j) (at' l s) = true := by
      by_cases e : j = q + m - s - 1
      · rw [e]; exact h0
      · exact hS.lt_of_le_lt (s2 j (q + m - s - 1) p3 (by omega) (by omega)) h0
    by_cases e : i = s
    · rw [e]; exact h5
    · exact hS.lt_of_lt_le h5 (s1 s i (by omega) (by omega) p2)
  have AB : ∀ i j, a ≤ i → i < s → q + m - s ≤ j → j < b → ltc c (at' l j) (at' l i) = false := by
    intro i j p1 p2 p3 p4
    have h0 := c2 (by omega) (by omega)
    have h5 : ltc c (at' l (q + m - s)) (at' l i) = false := by
      by_cases e : i = s - 1
      · rw [e]; exact h0
      · exact hS.ntr _ _ _ h0 (s1 i (s - 1) p1 (by omega) (by omega))
    by_cases e : j = q + m - s
    · rw [e]; exact h5
    · exact hS.ntr _ _ _ (s2 (q + m - s) j (by omega) (by omega) p4) h5
  unfold Z.symMerge_k1
  simp only [w, w1]
  rw [loopM_of i1, Option.bind_some]
  simp only [w2]
  have go : ∀ l1 : List α, Rng (ltc c) a b l l1 → (∀ k, k < s ∨ q + m - s ≤ k → at' l1 k = at' l k) → (∀ k, s ≤ k → k < q → at' l1 k = at' l (k + (m - s))) → (∀ k, q ≤ k → k < q + m - s → at' l1 k = at' l (k - (q - s))) →
      (∃ r, Z.symMerge_k2 self l (a : Int) (m : Int) (b : Int) (s : Int) l1 = some r ∧ Good c a b l r) ∨ (Z.symMerge_k2 self l (a : Int) (m : Int) (b : Int) (s : Int) l1 = none ∧ n + 1 ≤ b - a) := by
    intro l1 R e1 e2 e3
    have := sym_k hS ih (l := l) (l1 := l1) (a := a) (m := m) (b := b) (s := s) (by omega) (by omega) h3 h4 (by omega) (by omega) (by rw [hqq]; omega) (by rw [hqq]; omega) R ?_ ?_ ?_ ?_ ?_
    · exact this
    · intro i j p1 p2 p3
      rw [e1 i (by omega), e1 j (by omega)]; exact s1 i j p1 p2 (by omega)
    · rw [hqq]; intro i j p1 p2 p3
      rw [e2 i (by omega) (by omega), e2 j (by omega) (by omega)]; exact s2 _ _ (by omega) (by omega) (by omega)
    · rw [hqq]; intro i j p1 p2 p3
      rw [e3 i (by omega) (by omega), e3 j (by omega) (by omega)]; exact s1 _ _ (by omega) (by omega) (by omega)
    · rw [hqq]; intro i j p1 p2 p3
      rw [e1 i (by omega), e1 j (by omega)]; exact s2 i j (by omega) p2 p3
    · rw [hqq]; intro i j p1 p2 p3 p4
      by_cases k1 : i < s
      · rw [e1 i (by omega)]
        by_cases k2 : j < q + m - s
        · rw [e3 j p3 k2]; exact s1 _ _ p1 (by omega) (by omega)
        · rw [e1 j (by omega)]; exact AB i j p1 k1 (by omega) p4
      · rw [e2 i (by omega) p2]
        by_cases k2 : j < q + m - s
        · rw [e3 j p3 k2]; exact hS.asym (VU _ _ (by omega) (by omega) (by omega) (by omega))
        · rw [e1 j (by omega)]; exact s2 _ _ (by omega) (by omega) p4
  by_cases e1 : s < m ∧ m < q + m - s
  · rw [show (decide ((s : Int) < (m : Int)) && decide ((m : Int) < ((q + m - s : Nat) : Int))) = true by simp; omega, cond_true]
    obtain ⟨l1, r1, r2, r3, r4⟩ := rotR hS (l := l) (a := s) (m := m) (b := q + m - s) e1.1 e1.2 (by omega) h4 VU
    rw [r1, Option.bind_some, gdT (by simp [r2.len])]
    exact go l1 (r2.mono (by omega) (by omega)) r2.out (fun k p1 p2 => r3 k p1 (by omega)) (fun k p1 p2 => by rw [r4 k (by omega) p2]; congr 1; omega)
  · rw [show (decide ((s : Int) < (m : Int)) && decide ((m : Int) < ((q + m - s : Nat) : Int))) = false by simp only [Bool.and_eq_false_iff, decide_eq_false_iff_not]; omega, cond_false]
    exact go l (.refl _ _ _) (fun _ _ => rfl) (fun k p1 p2 => by congr 1; omega) (fun k p1 p2 => by congr 1; omega)
theorem sym_n (hc : ∀ x y, cmp x y = some (c x y)) (hS : SW (ltc c)) : ∀ n : Nat, Half c n (Z.symMerge_n cmp n) := by
  intro n
  induction n with
  | zero => intro l a m b _ _ _ _ _ _; exact .inr ⟨rfl, Nat.zero_le _⟩
  | succ n ih =>
    intro l a m b h1 h2 h3 h4 s1 s2
    show (∃ r, Z.symMerge_b cmp (Z.symMerge_n cmp n) l a m b = some r ∧ _) ∨ (Z.symMerge_b cmp (Z.symMerge_n cmp n) l a m b = none ∧ _)
    have w := half (i := a) (j := b) (by omega)
    have w1 : wr .i64 ((m : Int) - (a : Int)) = ((m - a : Nat) : Int) := by rw [wrN (by omega) (by omega)]; omega
    have w2 : wr .i64 ((b : Int) - (m : Int)) = ((b - m : Nat) : Int) := by rw [wrN (by omega) (by omega)]; omega
    have w3 : wr .i64 ((((a + b) / 2 : Nat) : Int) + (m : Int)) = (((a + b) / 2 + m : Nat) : Int) := by rw [wrN (by omega) (by omega)]; omega
    unfold Z.symMerge_b
    simp only [w, w1, w2, w3]
    by_cases e1 : m - a = 1
    · rw [show ((((m - a : Nat) : Int)) == 1) = true by rw [e1]; rfl, cond_true]
      exact .inl (sym_one hc hS (by omega) h2 h3 h4 s2)
    · rw [show ((((m - a : Nat) : Int)) == 1) = false by simp; omega, cond_false]
      by_cases e2 : b - m = 1
      · rw [show ((((b - m : Nat) : Int)) == 1) = true by rw [e2]; rfl, cond_true]
        exact .inl (sym_last hc hS h1 (by omega) h3 h4 s1)
      · rw [show ((((b - m : Nat) : Int)) == 1) = false by simp; omega, cond_false, gdT (by simp)]
        by_cases e3 : (a + b) / 2 < m
        · rw [show decide ((m : Int) > (((a + b) / 2 : Nat) : Int)) = true by simp; omega, cond_true]
          have w4 : wr .i64 ((((a + b) / 2 + m : Nat) : Int) - (b : Int)) = (((a + b) / 2 + m - b : Nat) : Int) := by rw [wrN (by omega) (by omega)]; omega
          rw [w4]
          exact sym_k1 hc hS ih h1 h2 h3 h4 s1 s2 (by omega) (by omega) (by omega) (Nat.le_refl _) (by omega) (.inr (by omega)) (.inr rfl)
        · rw [show decide ((m : Int) > (((a + b) / 2 : Nat) : Int)) = false by simp; omega, cond_false]
          exact sym_k1 hc hS ih h1 h2 h3 h4 s1 s2 (Nat.le_refl _) (by omega) (Nat.le_refl _) (by omega) (by omega) (.inl rfl) (.inl rfl)
theorem symS (hc : ∀ x y, cmp x y = some (c x y)) (hS : SW (ltc c)) {l : List α} {a m b : Nat} (h1 : a < m) (h2 : m < b) (h3 : b ≤ l.length) (h4 : l.length ≤ 4611686018427387904) (s1 : Srt (ltc c) a m l) (s2 : Srt (ltc c) m b l) :
    ∃ r, Z.symMerge cmp l (a : Int) (m : Int) (b : Int) = some r ∧ Good c a b l r := by
  have big : ∃ r, Z.symMerge_n cmp (b - a + 1) l (a : Int) (m : Int) (b : Int) = some r := by
    rcases sym_n hc hS (b - a + 1) l a m b h1 h2 h3 h4 s1 s2 with ⟨r, h, _⟩ | ⟨_, h⟩
    · exact ⟨r, h⟩
    · omega
  unfold Z.symMerge recM
  have hx : ∃ n y, Z.symMerge_n cmp n l (a : Int) (m : Int) (b : Int) = some y := ⟨_, big⟩
  rw [dif_pos hx]
  obtain ⟨y, hy⟩ := hx.choose_spec
  rcases sym_n hc hS hx.choose l a m b h1 h2 h3 h4 s1 s2 with h | ⟨h, _⟩
  · exact h
  · rw [h] at hy; cases hy
inductive Bk (lt : α → α → Bool) (k n : Nat) (l : List α) : Nat → Prop
  | done {a : Nat} : n ≤ a → Bk lt k n l a
  | step {a : Nat} : Srt lt a (min (a + k) n) l → Bk lt k n l (a + k) → Bk lt k n l a
inductive Fb (lt : α → α → Bool) (k : Nat) (l : List α) : Nat → Prop
  | zero : Fb lt k l 0
  | step {a : Nat} : Fb lt k l a → Srt lt a (a + k) l → Fb lt k l (a + k)
theorem Bk.out {lt : α → α → Bool} {k n a p q : Nat} {l l' : List α} (h : Bk lt k n l a) (r : Rng lt p q l l') (hq : q ≤ a) : Bk lt k n l' a := by
  induction h with
  | done h => exact .done h
  | step h1 _ ih => exact .step (h1.out r (.inr hq)) (ih (by omega))
theorem Fb.out {lt : α → α → Bool} {k a p q : Nat} {l l' : List α} (h : Fb lt k l a) (r : Rng lt p q l l') (hq : a ≤ p) : Fb lt k l' a := by
  induction h with
  | zero => exact .zero
  | step h1 h2 ih => exact .step (ih (by omega)) (h2.out r (.inl hq))
theorem Fb.bk {lt : α → α → Bool} {k n a : Nat} {l : List α} (h : Fb lt k l a) (ha : a ≤ n) (b : Bk lt k n l a) : Bk lt k n l 0 := by
  induction h with
  | zero => exact b
  | step h1 h2 ih => exact ih (by omega) (.step (by rw [Nat.min_eq_left ha]; exact h2) b)
theorem Bk.srt {lt : α → α → Bool} {k n a : Nat} {l : List α} (h : Bk lt k n l a) (hb : n ≤ a + k) : Srt lt a n l := by
  cases h with
  | done h => intro i j _ _ _; omega
  | step h1 _ => rw [Nat.min_eq_right hb] at h1; exact h1
theorem Bk.two {lt : α → α → Bool} {k n a b : Nat} {l : List α} (h : Bk lt k n l a) (hb : a + k + k = b) (hn : b ≤ n) (hk : 0 < k) : Srt lt a (a + k) l ∧ Srt lt (a + k) b l ∧ Bk lt k n l b := by
  cases h with
  | done h => omega
  | step h1 h2 =>
    rw [Nat.min_eq_left (by omega)] at h1
    cases h2 with
    | done h => omega
    | step h3 h4 => rw [Nat.min_eq_left (by omega)] at h3; rw [hb] at h3 h4; exact ⟨h1, h3, h4⟩
theorem st1 (hc : ∀ x y, cmp x y = some (c x y)) (hS : SW (ltc c)) {n : Nat} : ∀ (s a : Nat) (l : List α), n - a ≤ s → a ≤ n → n = l.length → l.length ≤ 1152921504606846976 → Fb (ltc c) 20 l a →
    ∃ (a' : Nat) (l' : List α), Iter (Z.stable_l1 cmp (n : Int)) (l, (a : Int), ((a + 20 : Nat) : Int)) ((a' : Int), l') ∧ a' ≤ n ∧ n < a' + 20 ∧ Rng (ltc c) 0 n l l' ∧ Fb (ltc c) 20 l' a' := by
  intro s
  induction s with
  | zero =>
    intro a l h1 h2 h3 h4 h5
    refine ⟨a, l, .out ?_, h2, by omega, .refl _ _ _, h5⟩
    unfold Z.stable_l1
    simp only
    rw [show decide (((a + 20 : Nat) : Int) ≤ (n : Int)) = false by simp; omega]
    rfl
  | succ s ih =>
    intro a l h1 h2 h3 h4 h5
    by_cases e : a + 20 ≤ n
    · obtain ⟨l1, q1, q2, q3⟩ := insS hc hS (a := a) (b := a + 20) (l := l) (by omega) (by omega) (by omega)
      obtain ⟨a', l', r1, r2, r3, r4, r5⟩ := ih (a + 20) l1 (by omega) e (by rw [q2.len]; exact h3) (by rw [q2.len]; exact h4) (.step (h5.out q2 (Nat.le_refl _)) q3)
      refine ⟨a', l', .next ?_ r1, r2, r3, (q2.mono (Nat.zero_le _) e).trans r4, r5⟩
      unfold Z.stable_l1
      simp only
      have w : wr .i64 (((a + 20 : Nat) : Int) + 20) = ((a + 20 + 20 : Nat) : Int) := by rw [wrN (by omega) (by omega)]; omega
      rw [show decide (((a + 20 : Nat) : Int) ≤ (n : Int)) = true by simp; omega, cond_true, q1, Option.bind_some, gdT (by simp [q2.len]), w]
    · refine ⟨a, l, .out ?_, h2, by omega, .refl _ _ _, h5⟩
      unfold Z.stable_l1
      simp only
      rw [show decide (((a + 20 : Nat) : Int) ≤ (n : Int)) = false by simp; omega]
      rfl
theorem st3 (hc : ∀ x y, cmp x y = some (c x y)) (hS : SW (ltc c)) {n k : Nat} {l0 : List α} (hk : 0 < k) (hkn : k < n) : ∀ (s a : Nat) (l : List α), n - a ≤ s → a ≤ n → n = l.length → l.length ≤ 1152921504606846976 → Fb (ltc c) (2 * k) l a → Bk (ltc c) k n l a →
    ∃ (a' : Nat) (l' : List α), Iter (Z.stable_l3 cmp (n : Int) (l0, (k : Int))) (l, (a : Int), ((a + 2 * k : Nat) : Int)) ((a' : Int), l') ∧ a' ≤ n ∧ n < a' + 2 * k ∧ Rng (ltc c) 0 n l l' ∧ Fb (ltc c) (2 * k) l' a' ∧ Bk (ltc c) k n l' a' := by
  intro s
  induction s with
  | zero =>
    intro a l h1 h2 h3 h4 h5 h6
    refine ⟨a, l, .out ?_, h2, by omega, .refl _ _ _, h5, h6⟩
    unfold Z.stable_l3
    simp only
    rw [show decide (((a + 2 * k : Nat) : Int) ≤ (n : Int)) = false by rw [decide_eq_false_iff_not]; omega]
    rfl
  | succ s ih =>
    intro a l h1 h2 h3 h4 h5 h6
    by_cases e : a + 2 * k ≤ n
    · obtain ⟨t1, t2, t3⟩ := h6.two (b := a + 2 * k) (by omega) e hk
      obtain ⟨l1, q1, q2, q3⟩ := symS hc hS (a := a) (m := a + k) (b := a + 2 * k) (l := l) (by omega) (by omega) (by omega) (by omega) t1 t2
      obtain ⟨a', l', r1, r2, r3, r4, r5⟩ := ih (a + 2 * k) l1 (by omega) e (by rw [q2.len]; exact h3) (by rw [q2.len]; exact h4) (.step (h5.out q2 (Nat.le_refl _)) q3) (t3.out q2 (Nat.le_refl _))
      refine ⟨a', l', .next ?_ r1, r2, r3, (q2.mono (Nat.zero_le _) e).trans r4, r5⟩
      unfold Z.stable_l3
      simp only
      have w : wr .i64 ((a : Int) + (k : Int)) = ((a + k : Nat) : Int) := by rw [wrN (by omega) (by omega)]; omega
      have w1 : wr .i64 (2 * (k : Int)) = ((2 * k : Nat) : Int) := by rw [wrN (by omega) (by omega)]; omega
      have w2 : wr .i64 (((a + 2 * k : Nat) : Int) + ((2 * k : Nat) : Int)) = ((a + 2 * k + 2 * k : Nat) : Int) := by rw [wrN (by omega) (by omega)]; omega
      rw [show decide (((a + 2 * k : Nat) : Int) ≤ (n : Int)) = true by rw [decide_eq_true_eq]; omega, cond_true, w, q1, Option.bind_some, gdT (by simp [q2.len]), w1, w2]
    · refine ⟨a, l, .out ?_, h2, by omega, .refl _ _ _, h5, h6⟩
      unfold Z.stable_l3
      simp only
      rw [show decide (((a + 2 * k : Nat) : Int) ≤ (n : Int)) = false by rw [decide_eq_false_iff_not]; omega]
      rfl
theorem st2 (hc : ∀ x y, cmp x y = some (c x y)) (hS : SW (ltc c)) {n : Nat} : ∀ (s k : Nat) (l : List α), n - k ≤ s → 0 < k → n = l.length → l.length ≤ 1152921504606846976 → Bk (ltc c) k n l 0 →
    ∃ l', Iter (Z.stable_l2 cmp (n : Int)) (l, (k : Int)) l' ∧ Rng (ltc c) 0 n l l' ∧ Srt (ltc c) 0 n l' := by
  intro s
  induction s with
  | zero =>
    intro k l h1 h2 h3 h4 h5
    refine ⟨l, .out ?_, .refl _ _ _, h5.srt (by omega)⟩
    unfold Z.stable_l2
    simp only
    rw [show decide ((k : Int) < (n : Int)) = false by simp; omega]
    rfl
  | succ s ih =>
    intro k l h1 h2 h3 h4 h5
    by_cases e : k < n
    · obtain ⟨a, l1, q1, q2, q3, q4, q5, q6⟩ := st3 hc hS (l0 := l) h2 e (n - 0) 0 l (Nat.le_refl _) (Nat.zero_le _) h3 h4 .zero h5
      have w : wr .i64 ((a : Int) + (k : Int)) = ((a + k : Nat) : Int) := by rw [wrN (by omega) (by omega)]; omega
      have w1 : wr .i64 (2 * (k : Int)) = ((2 * k : Nat) : Int) := by rw [wrN (by omega) (by omega)]; omega
      have w2 : wr .i64 ((k : Int) * 2) = ((2 * k : Nat) : Int) := by rw [wrN (by omega) (by omega)]; omega
      have hq4 := q4.len
      by_cases e2 : a + k < n
      · have t : Srt (ltc c) a (a + k) l1 ∧ Srt (ltc c) (a + k) n l1 := by
          cases q6 with
          | done h => omega
          | step g1 g2 => rw [Nat.min_eq_left (by omega)] at g1; exact ⟨g1, g2.srt (by omega)⟩
        obtain ⟨l2, r1, r2, r3⟩ := symS hc hS (a := a) (m := a + k) (b := n) (l := l1) (by omega) e2 (by omega) (by omega) t.1 t.2
        have hr2 := r2.len
        obtain ⟨l', p1, p2, p3⟩ := ih (2 * k) l2 (by omega) (by omega) (by omega) (by omega) ((q5.out r2 (Nat.le_refl _)).bk q2 (.step (by rw [Nat.min_eq_right (by omega)]; exact r3) (.done (by omega))))
        refine ⟨l', .next ?_ p1, q4.trans ((r2.mono (Nat.zero_le _) (Nat.le_refl _)).trans p2), p3⟩
        unfold Z.stable_l2
        simp only
        rw [show decide ((k : Int) < (n : Int)) = true by simp; omega, cond_true, w1]
        rw [Nat.zero_add] at q1
        rw [show ((0 : Int)) = ((0 : Nat) : Int) from rfl, loopM_of q1, Option.bind_some]
        simp only [w]
        rw [show decide (((a + k : Nat) : Int) < (n : Int)) = true by rw [decide_eq_true_eq]; omega, cond_true, r1, Option.bind_some, gdT (by simp [r2.len])]
        unfold Z.stable_k1
        simp only [w2]
      · obtain ⟨l', p1, p2, p3⟩ := ih (2 * k) l1 (by omega) (by omega) (by omega) (by omega) (q5.bk q2 (by
          cases q6 with
          | done h => exact .done h
          | step g1 g2 => exact .step (by rw [Nat.min_eq_right (by omega)] at g1 ⊢; exact g1) (.done (by omega))))
        refine ⟨l', .next ?_ p1, q4.trans p2, p3⟩
        unfold Z.stable_l2
        simp only
        rw [show decide ((k : Int) < (n : Int)) = true by simp; omega, cond_true, w1]
        rw [Nat.zero_add] at q1
        rw [show ((0 : Int)) = ((0 : Nat) : Int) from rfl, loopM_of q1, Option.bind_some]
        simp only [w]
        rw [show decide (((a + k : Nat) : Int) < (n : Int)) = false by rw [decide_eq_false_iff_not]; omega, cond_false]
        unfold Z.stable_k1
        simp only [w2]
    · refine ⟨l, .out ?_, .refl _ _ _, h5.srt (by omega)⟩
      unfold Z.stable_l2
      simp only
      rw [show decide ((k : Int) < (n : Int)) = false by simp; omega]
      rfl
theorem stable_ok (hc : ∀ x y, cmp x y = some (c x y)) (hS : SW (ltc c)) {l : List α} (hl : l.length ≤ 1152921504606846976) :
    ∃ r, Z.SortStable cmp l = some r ∧ r.length = l.length ∧ r.Pairwise (fun x y => ltc c y x = false) ∧ ∀ e, r.filter (eqv (ltc c) e) = l.filter (eqv (ltc c) e) := by
  obtain ⟨a, l1, q1, q2, q3, q4, q5⟩ := st1 hc hS (n := l.length) (l.length - 0) 0 l (Nat.le_refl _) (Nat.zero_le _) rfl hl .zero
  have h1 := q4.len
  obtain ⟨l2, r1, r2, r3⟩ := insS hc hS (a := a) (b := l.length) (l := l1) q2 (by omega) (by omega)
  have h2 := r2.len
  obtain ⟨l3, p1, p2, p3⟩ := st2 hc hS (n := l.length) (l.length - 20) 20 l2 (Nat.le_refl _) (by omega) (by omega) (by omega) ((q5.out r2 (Nat.le_refl _)).bk q2 (.step (by rw [Nat.min_eq_right (by omega)]; exact r3) (.done (by omega))))
  have h3 := p2.len
  refine ⟨l3, ?_, by omega, srt_pairwise (by rw [show l3.length = l.length by omega]; exact p3), fun e => ((p2.stab e).trans (r2.stab e)).trans (q4.stab e)⟩
  unfold Z.SortStable Z.stable
  rw [Nat.zero_add] at q1
  rw [show ((0 : Int)) = ((0 : Nat) : Int) from rfl, show ((20 : Int)) = ((20 : Nat) : Int) from rfl, loopM_of q1, Option.bind_some]
  simp only
  rw [r1, Option.bind_some, gdT (by simp [h2]), loopM_of p1, Option.bind_some, gdT (by simp; omega), Option.bind_some, gdT (by simp; omega), gdT (by simp; omega)]
end
end Nv
namespace Nv
open Go
section
variable {α : Type} {lt : α → α → Bool}
def sins (lt : α → α → Bool) (x : α) : List α → List α
  | [] => [x]
  | y :: t => bif lt y x then y :: sins lt x t else x :: y :: t
def ssort (lt : α → α → Bool) : List α → List α
  | [] => []
  | x :: l => sins lt x (ssort lt l)
theorem mem_sins {x y : α} : ∀ {l : List α}, y ∈ sins lt x l ↔ y = x ∨ y ∈ l
  | [] => by simp [sins]
  | z :: t => by
    unfold sins
    cases lt z x with
    | true => simp only [cond_true, List.mem_cons, mem_sins (l := t)]; constructor <;> (rintro (h | h | h) <;> simp [h])
    | false => simp
theorem mem_ssort {y : α} : ∀ {l : List α}, y ∈ ssort lt l ↔ y ∈ l
  | [] => by simp [ssort]
  | x :: l => by unfold ssort; rw [mem_sins, mem_ssort]; simp
theorem len_sins (x : α) : ∀ l : List α, (sins lt x l).length = l.length + 1
  | [] => rfl
  | z :: t => by unfold sins; cases lt z x <;> simp [len_sins x t]
theorem len_ssort : ∀ l : List α, (ssort lt l).length = l.length
  | [] => rfl
  | x :: l => by unfold ssort; rw [len_sins, len_ssort l]; rfl
theorem sins_sorted (hS : SW lt) (x : α) : ∀ {l : List α}, l.Pairwise (fun x y => lt y x = false) → (sins lt x l).Pairwise (fun x y => lt y x = false)
  | [], _ => by simp [sins]
  | z :: t, h => by
    rw [List.pairwise_cons] at h
    unfold sins
    cases hz : lt z x with
    | true =>
      simp only [cond_true, List.pairwise_cons]
      refine ⟨fun y hy => ?_, sins_sorted hS x h.2⟩
      rcases mem_sins.1 hy with rfl | hy
      · exact hS.asym hz
      · exact h.1 y hy
    | false =>
      simp only [cond_false, List.pairwise_cons, List.mem_cons]
      refine ⟨fun y hy => ?_, h⟩
      rcases hy with rfl | hy
      · exact hz
      · exact hS.ntr _ _ _ (h.1 y hy) hz
theorem ssort_sorted (hS : SW lt) : ∀ l : List α, (ssort lt l).Pairwise (fun x y => lt y x = false)
  | [] => by simp [ssort]
  | x :: l => sins_sorted hS x (ssort_sorted hS l)
theorem sins_filter (hS : SW lt) (e x : α) : ∀ l : List α, (sins lt x l).filter (eqv lt e) = (x :: l).filter (eqv lt e)
  | [] => rfl
  | z :: t => by
    unfold sins
    cases hz : lt z x with
    | false => rfl
    | true =>
      simp only [cond_true]
      cases hez : eqv lt e z with
      | false =>
        rw [List.filter_cons_of_neg (by simp [hez]), sins_filter hS e x t]
        cases hex : eqv lt e x with
        | true => rw [List.filter_cons_of_pos hex, List.filter_cons_of_pos hex, List.filter_cons_of_neg (by simp [hez])]
        | false => rw [List.filter_cons_of_neg (by simp [hex]), List.filter_cons_of_neg (by simp [hex]), List.filter_cons_of_neg (by simp [hez])]
      | true =>
        have hex : eqv lt e x = false := by
          cases hex : eqv lt e x with
          | false => rfl
          | true =>
            simp only [eqv, Bool.and_eq_true, Bool.not_eq_true'] at hez hex
            have := hS.ntr _ _ _ hez.2 hex.1
            rw [hz] at this; cases this
        rw [List.filter_cons_of_pos hez, sins_filter hS e x t, List.filter_cons_of_neg (by simp [hex]), List.filter_cons_of_neg (by simp [hex]), List.filter_cons_of_pos hez]
theorem ssort_filter (hS : SW lt) (e : α) : ∀ l : List α, (ssort lt l).filter (eqv lt e) = l.filter (eqv lt e)
  | [] => rfl
  | x :: l => by
    unfold ssort
    rw [sins_filter hS, List.filter_cons, List.filter_cons, ssort_filter hS e l]
end
theorem stable_eq {α : Type} [Inhabited α] {cmp : α → α → Option Int} {c : α → α → Int} (hc : ∀ x y, cmp x y = some (c x y)) (hS : SW (ltc c)) {l : List α} (hl : l.length ≤ 1152921504606846976) :
    Z.SortStable cmp l = some (ssort (ltc c) l) := by
  obtain ⟨r, h1, _, h2, h3⟩ := stable_ok hc hS hl
  rw [h1, sorted_unique hS h2 (ssort_sorted hS l) fun e => (h3 e).trans (ssort_filter hS e l).symm]
end Nv
namespace Nv
open Go Go.RowKit
theorem env_from {ops : Array Oper} (hnd : dstsB ops = true) {nt k0 n : Nat} {E : Nat → List (Nat × D)} {V : Nat → D} {env0 : List (Nat × D)} (hbase : ∀ t, find (E k0) t = valL ops V env0 (· < k0) t)
    (hput : ∀ i, k0 ≤ i → i < n → ∃ o, ops[i]? = some o ∧ putE nt o.dst (V i) (E i) = some (E (i + 1))) : ∀ m, k0 + m ≤ n → ∀ t, find (E (k0 + m)) t = valL ops V env0 (· < k0 + m) t
  | 0, _, t => hbase t
  | m + 1, hk, t => by
    have ih := env_from hnd hbase hput m (by omega) t
    obtain ⟨o, ho, hp⟩ := hput (k0 + m) (by omega) (by omega)
    rw [← Nat.add_assoc]
    generalize k0 + m = k at *
    unfold putE at hp
    split at hp
    · rename_i hd
      simp only [Option.some.injEq] at hp
      rw [← hp, ih]
      refine valL_congr hnd fun i hi => ⟨fun h => by omega, fun h => ?_⟩
      rcases Nat.lt_or_ge i k with h1 | h1
      · exact h1
      · have : i = k := by omega
        subst this
        rw [ho] at hi
        simp [hd] at hi
    · rename_i u hd
      cases hlt : Nat.blt u nt with
      | false => rw [hlt] at hp; cases hp
      | true =>
        rw [hlt] at hp
        simp only [cond_true, Option.some.injEq] at hp
        rw [← hp]
        simp only [find]
        have hku : (ops[k]?).bind (·.dst) = some u := by rw [ho]; exact hd
        cases hb : Nat.beq u t with
        | true =>
          obtain rfl := Nat.eq_of_beq_eq_true hb
          simp only [cond_true]
          exact (valL_some hnd hku (Nat.lt_succ_self k)).symm
        | false =>
          simp only [cond_false]
          rw [ih]
          refine valL_congr hnd fun i hi => ⟨fun h => by omega, fun h => ?_⟩
          rcases Nat.lt_or_ge i k with h1 | h1
          · exact h1
          · have : i = k := by omega
            subst this
            rw [hku] at hi
            cases hi
            rw [Nat.beq_refl] at hb; cases hb
theorem flow_of {ops : Array Oper} (hfl : flowB ops = true) : ∀ i o, ops[i]? = some o → flowAt ops (Region.before ops) i o = true := by
  simp only [flowB, Bool.and_eq_true, List.all_eq_true] at hfl
  intro i o ho
  refine hfl.2 (o, i) ?_
  rw [List.mem_zipIdx_iff_getElem?]
  simpa using ho
theorem set_iff {listed : Array Bool} {i : Nat} (hi : i < listed.size) (j : Nat) : (listed.setIfInBounds i true).getD j false = true ↔ j = i ∨ listed.getD j false = true := by
  by_cases hji : j = i
  · subst hji; simp [hi]
  · rw [getD_set_ne false (Ne.symm hji)]; simp [hji]
theorem dstep {P : Program} {F : Fr} [GF P F] {nt : Nat} {ops : Array Oper} {H : List Ob} {V : Nat → D} {env0 Ei : List (Nat × D)} (hfl : flowB ops = true) {listed : Array Bool} {a : Act} {c : Ctx} (hD : DInv F nt ops H V env0 listed a c)
    {i : Nat} {o : Oper} (ho : ops[i]? = some o) (hunf : listed.getD i false = false) (hall : ∀ e ∈ o.after, Region.binds .any e = true → listed.getD e.on false = true)
    (hval : ∀ t, find Ei t = valL ops V env0 (· < i) t) {orc orc1 : List Res} {b : List Bool} {r : List Req} (hstep : stepDr P ops i H Ei orc o = some (V i, b, r, orc1)) (hb : ∀ x ∈ b, x = true) (hq : ∀ q ∈ r, q.ok P) (hnt : ∀ t, o.dst = some t → t < nt)
    {Q : Exit → Act → World → Prop} {K : Act → World → Prop} (hK : ∀ a' c', DInv F nt ops H V env0 (listed.setIfInBounds i true) a' c' → K a' c'.w) : wpOp P ops Q i K a c.w := by
  have hnd : dstsB ops = true := by simp only [flowB, Bool.and_eq_true] at hfl; exact hfl.1
  have hilt := (Array.getElem?_eq_some_iff.1 ho).1
  have hwaits : ∀ j, Waits ops i j → listed.getD j false = true := fun j ⟨o', ho', e, he, hbi, hon⟩ => by
    rw [ho] at ho'
    cases ho'
    rw [← hon]
    exact hall e he hbi
  have hfa := flow_of hfl i o ho
  simp only [flowAt, Bool.and_eq_true] at hfa
  obtain ⟨⟨hf1, hf2⟩, hf3⟩ := hfa
  have same : ∀ t ∈ needs ops o, valL ops V env0 (fun i => listed.getD i false = true) t = find Ei t := fun t ht => by
    rw [hval t]
    refine valL_congr hnd fun k hk => ?_
    have h1 := List.all_eq_true.1 hf3 t ht
    obtain ⟨ok, hok, hdk⟩ := Option.bind_eq_some_iff.1 hk
    have hklt := (Array.getElem?_eq_some_iff.1 hok).1
    have h2 := List.all_eq_true.1 h1 (ok, k) (by rw [List.mem_zipIdx_iff_getElem?]; simpa using hok)
    simp only [hdk] at h2
    have e1 : Nat.beq t t = true := Nat.beq_refl t
    rw [e1] at h2
    simp only [Bool.not_true, Bool.false_or, Bool.or_eq_true, Bool.and_eq_true] at h2
    rcases h2 with (h2 | ⟨h2, h3⟩) | ⟨h2, h3⟩
    · obtain rfl := Nat.eq_of_beq_eq_true h2
      exact ⟨fun h => (by rw [hunf] at h; cases h), fun h => by omega⟩
    · exact ⟨fun _ => blt_true h2, fun _ => closed_reach hD.closed (before_reach ops i k hilt h3) hwaits⟩
    · have hik := blt_true h2
      refine ⟨fun h => ?_, fun h => by omega⟩
      have := closed_reach hD.closed (before_reach ops k i hklt h3) (fun j hj => hD.closed _ _ hj h)
      rw [hunf] at this
      cases this
  have hops : ∀ x ∈ o.op.operands.toList, GV (yielded ops a.tmps) c (a.eval x) (evD Ei x) := fun x hx => by
    cases x with
    | tmp t =>
      show GV _ _ _ (find Ei t)
      rw [← same t (by simp only [needs, List.mem_append, List.mem_filterMap]; exact .inl ⟨.tmp t, hx, rfl⟩)]
      exact hD.env t
    | const v => exact gv_of_tv (tv_dv c v)
    | global g => exact gv_of_tv tv_any
    | func f => exact gv_of_tv ⟨#[], rfl, rfl, fun i v d h1 _ => by simp at h1⟩
  have hgf : GuardFacts ops a c Ei (gch ops 20 o.guard) := fun p hp t ht => by
    rw [← same t (by simp only [needs, List.mem_append, List.mem_filterMap]; exact .inr ⟨p, hp, ht⟩)]
    exact hD.env t
  have hL := set_iff (listed := listed) (i := i) (by rw [hD.lsize]; exact hilt)
  have new : ∀ v c', Inv F c' → Goes c c' → (∀ d, V i = d → GV (yielded ops (a.put o.dst v).tmps) c' v d) → (∀ j w d, V i = .opt j w d → listed.getD j false = true) → K (a.put o.dst v) c'.w := fun v c' hI' hgo hv hvo => by
    have hvalo : ∀ t, (∀ u, o.dst = some u → u ≠ t) → valL ops V env0 (fun j => (listed.setIfInBounds i true).getD j false = true) t = valL ops V env0 (fun j => listed.getD j false = true) t := fun t ht => by
      refine valL_congr hnd fun k hk => ?_
      show (listed.setIfInBounds i true).getD k false = true ↔ _
      rw [hL]
      refine ⟨fun h => ?_, .inr⟩
      rcases h with rfl | h
      · rw [ho] at hk
        exact absurd rfl (ht t hk)
      · exact h
    have hyj : ∀ j, listed.getD j false = true → yielded ops (a.put o.dst v).tmps j = yielded ops a.tmps j := fun j hj => yielded_put fun t ht e => by
      have := dsts_spec hnd (show (ops[i]?).bind (·.dst) = some t by rw [ho]; exact ht) e
      subst this
      rw [hunf] at hj
      cases hj
    have keep : ∀ t, GV (yielded ops (a.put o.dst v).tmps) c' (a.tmps.getD t undef) (valL ops V env0 (fun j => listed.getD j false = true) t) := fun t => by
      have h1 := hgo.gv (hD.env t)
      cases hf : valL ops V env0 (fun j => listed.getD j false = true) t <;> rw [hf] at h1 <;> try exact h1
      rename_i j w d
      simp only [GV] at h1 ⊢
      rw [hyj j (hD.opt t j w d hf)]
      exact h1
    refine hK _ c' ⟨by rw [hgo.H]; exact hD.H, hI', fun t => ?_, by rw [size_put]; exact hD.size, by rw [defers_put]; exact hD.defers, fun t j w d hf => ?_, by simp [hD.lsize], fun p q hpq hp => ?_⟩
    · by_cases hdt : o.dst = some t
      · have hit : (ops[i]?).bind (·.dst) = some t := by rw [ho]; exact hdt
        rw [valL_some hnd hit ((hL i).2 (.inl rfl))]
        have e : (a.put o.dst v).tmps.getD t undef = v := by rw [hdt]; exact getD_put_same (by rw [hD.size]; exact hnt t hdt)
        rw [e]
        exact hv _ rfl
      · rw [hvalo t (fun u hu e => hdt (by rw [hu, e])), getD_put hdt]
        exact keep t
    · rw [hL]
      right
      by_cases hdt : o.dst = some t
      · have hit : (ops[i]?).bind (·.dst) = some t := by rw [ho]; exact hdt
        rw [valL_some hnd hit ((hL i).2 (.inl rfl))] at hf
        exact hvo j w d hf
      · rw [hvalo t (fun u hu e => hdt (by rw [hu, e]))] at hf
        exact hD.opt t j w d hf
    · rw [hL] at hp ⊢
      right
      rcases hp with rfl | hp
      · exact hwaits q hpq
      · exact hD.closed p q hpq hp
  unfold stepDr at hstep
  split at hstep <;> try cases hstep
  rename_i g hg
  unfold wpOp
  simp only [ho]
  split at hstep
  · rename_i d bs0 rq0 orc2 j want hop hgd
    cases hlt : Nat.blt j i with
    | false => simp [hlt] at hstep
    | true =>
      simp only [hlt, cond_true, Option.some.injEq, Prod.mk.injEq] at hstep
      obtain ⟨hV, rfl, rfl, rfl⟩ := hstep
      have hji := blt_true hlt
      have hyj : ∀ v, yielded ops (a.put o.dst v).tmps j = yielded ops a.tmps j := fun v => yielded_put fun t ht e => by
        have := dsts_spec hnd (show (ops[i]?).bind (·.dst) = some t by rw [ho]; exact ht) e
        omega
      have hjl : listed.getD j false = true := by
        rw [hgd] at hf2
        simp only at hf2
        obtain ⟨e, he, h1⟩ := Array.any_eq_true'.1 hf2
        simp only [Bool.and_eq_true] at h1
        rw [← Nat.eq_of_beq_eq_true h1.2]
        exact hall e he h1.1
      have hwant : Region.wanted o (yielded ops a.tmps) = (yielded ops a.tmps j == some want) := by simp [Region.wanted, hgd]
      have hvo : ∀ j' w d', V i = .opt j' w d' → listed.getD j' false = true := fun j' w d' h => by rw [← hV] at h; cases h; exact hjl
      cases hw : Region.wanted o (yielded ops a.tmps) with
      | true =>
        simp only [if_true]
        refine .inl (op_sound hD.inv hops hgf hg hw (by rw [hD.H]; exact hop) hb hq fun v c' hI' haf => ?_)
        obtain ⟨hgo, _, htv⟩ := haf
        refine new v c' hI' hgo (fun d' hd' => ?_) hvo
        rw [← hd', ← hV]
        refine .inl ⟨?_, htv⟩
        rw [hyj]
        rw [hw] at hwant
        simpa using hwant.symm
      | false =>
        simp only [Bool.false_eq_true, if_false]
        refine new undef c hD.inv (Goes.refl hD.inv) (fun d' hd' => ?_) hvo
        rw [← hd', ← hV]
        refine .inr ⟨?_, rfl⟩
        rw [hyj]
        rw [hw] at hwant
        simpa using hwant.symm
  · rename_i d bs0 rq0 orc2 hop hgd
    simp only [Option.some.injEq, Prod.mk.injEq] at hstep
    obtain ⟨hV, rfl, rfl, rfl⟩ := hstep
    have hw : Region.wanted o (yielded ops a.tmps) = true := by simp [Region.wanted, hgd]
    simp only [hw, if_true]
    refine .inl (op_sound hD.inv hops hgf hg hw (by rw [hD.H]; exact hop) hb hq fun v c' hI' haf => ?_)
    obtain ⟨hgo, _, htv⟩ := haf
    refine new v c' hI' hgo (fun d' hd' => ?_) (fun j w d' h => ?_)
    · rw [← hd', ← hV]; exact gv_of_tv htv
    · rw [← hV] at h
      subst h
      simp only [TV, AV] at htv
      exact absurd htv cv_not_opt
  · cases hstep
end Nv
namespace Nv
open Go Go.RowKit
def cutAt (ops : Array Oper) (k : Nat) : Bool :=
  let M := Region.before ops
  (List.range ops.size).all fun q => Nat.blt q k || (List.range k).all fun p => (M.getD q 0).testBit p
theorem cutAt_spec {ops : Array Oper} {k p q : Nat} (h : cutAt ops k = true) (hq : q < ops.size) (hk : k ≤ q) (hp : p < k) : ((Region.before ops).getD q 0).testBit p = true := by
  have h1 := List.all_eq_true.1 h q (List.mem_range.2 hq)
  rw [show Nat.blt q k = false by (cases hb : Nat.blt q k with | false => rfl | true => have := blt_true hb; omega), Bool.false_or] at h1
  exact List.all_eq_true.1 h1 p (List.mem_range.2 hp)
def QK (Q : Exit → Act → World → Prop) (K : Act → World → Prop) : Exit → Act → World → Prop
  | .normal, a, w => K a w
  | e, a, w => Q e a w
theorem wp_qk {P : Program} {o : Oper} {a : Act} {w : World} {Q : Exit → Act → World → Prop} {K K1 K2 : Act → World → Prop} (h : ∀ a w, K1 a w → K2 a w) (hh : o.wp P a w K1 (QK Q K)) : o.wp P a w K2 Q := by
  unfold Oper.wp at *
  generalize (execOp a.eval o).run P w = r at *
  cases r with
  | ok n w' =>
    cases n <;> simp only [Oper.upon] at hh ⊢ <;>
      first
        | exact h _ _ hh
        | exact Calls.mono hh (fun e w'' he => by cases e <;> first | exact h _ _ he | exact he)
        | exact Rows.mono hh (fun _ _ he => h _ _ he)
  | halt x w' => cases x <;> simp only [Oper.upon] at hh ⊢ <;> exact hh
theorem ext_get {ops : Array Oper} {k i : Nat} (hk : k ≤ ops.size) (hi : i < k) : (ops.extract 0 k)[i]? = ops[i]? := by
  rw [Array.getElem?_extract]
  simp only [Nat.sub_zero, Nat.zero_add]
  rw [if_pos (by omega)]
theorem any_prefix {P : Program} {ops : Array Oper} {k : Nat} (hk : k ≤ ops.size) (hfl : flowB ops = true) (hcut : cutAt ops k = true) {Q : Exit → Act → World → Prop} {K : Act → World → Prop}
    (hn : ∀ a w, K a w → ∀ listed : Array Bool, listed.size = ops.size → (∀ i, listed.getD i false = true ↔ i < k) → wpAny P .any ops Q (ops.size - k) listed a w) :
    ∀ (fuel : Nat) (la listed : Array Bool) (a : Act) (w : World), la.size = k → listed.size = ops.size → (∀ i, listed.getD i false = true ↔ la.getD i false = true) → (∀ i j, Waits ops i j → listed.getD i false = true → listed.getD j false = true) → cnt la + fuel = k →
      wpAny P .any (ops.extract 0 k) (QK Q K) fuel la a w → wpAny P .any ops Q (fuel + (ops.size - k)) listed a w := by
  have flow := flow_of hfl
  have esz : (ops.extract 0 k).size = k := by rw [Array.size_extract]; omega
  have onlt : ∀ i o, ops[i]? = some o → ∀ e ∈ o.after, Region.binds .any e = true → e.on < i := fun i o ho e he hb => by
    have h1 := flow i o ho
    simp only [flowAt, Bool.and_eq_true] at h1
    have h2 := Array.all_eq_true'.1 h1.1.1 e he
    simp only [hb, Bool.not_true, Bool.false_or] at h2
    exact blt_true h2
  intro fuel
  induction fuel with
  | zero =>
    intro la listed a w hla hls hle hcl hcnt hw
    have hall := cnt_full (listed := la) (by rw [hla]; omega)
    rw [Nat.zero_add]
    refine hn a w hw.2 listed hls fun i => ?_
    rw [hle]
    refine ⟨fun h => ?_, fun h => hall i (by omega)⟩
    rcases Nat.lt_or_ge i la.size with h1 | h1
    · omega
    · simp [Array.getElem?_eq_none h1] at h
  | succ fuel ih =>
    intro la listed a w hla hls hle hcl hcnt hw
    rw [show fuel + 1 + (ops.size - k) = (fuel + (ops.size - k)) + 1 by omega]
    have lan : ∀ i, k ≤ i → listed.getD i false = false := fun i hi => by
      cases hl : listed.getD i false with
      | false => rfl
      | true =>
        have := (hle i).1 hl
        simp [Array.getElem?_eq_none (show la.size ≤ i by omega)] at this
    -- one is not listed yet
    have ex : ∃ i, i < k ∧ la.getD i false = false := by
      apply Classical.byContradiction
      intro h
      have hall : ∀ i, i < la.size → la.getD i false = true := fun i hi => by
        cases hl : la.getD i false with
        | true => rfl
        | false => exact absurd ⟨i, by omega, hl⟩ h
      have : cnt la = la.size := by
        unfold cnt
        rw [← Array.length_toList]
        refine List.countP_eq_length.2 fun x hx => ?_
        obtain ⟨i, hi, rfl⟩ := List.getElem_of_mem hx
        have := hall i (by simpa using hi)
        simp only [Array.length_toList] at hi
        simp [hi] at this
        simpa using this
      omega
    have rdy : ∀ i, i ∈ Region.ready .any ops listed → i < k ∧ i ∈ Region.ready .any (ops.extract 0 k) la := fun i hi => by
      obtain ⟨h1, o, ho, h2⟩ := mem_ready.1 hi
      have hilt := (Array.getElem?_eq_some_iff.1 ho).1
      have hik : i < k := by
        apply Classical.byContradiction
        intro hge
        obtain ⟨j, hj, hj2⟩ := ex
        have hr := before_reach ops i j hilt (cutAt_spec hcut hilt (by omega) hj)
        have := closed_reach hcl hr fun q ⟨o', ho', e, he, hb, hon⟩ => by
          rw [ho] at ho'; cases ho'
          rw [← hon]; exact h2 e he hb
        rw [hle, hj2] at this
        cases this
      refine ⟨hik, mem_ready.2 ⟨?_, o, by rw [ext_get hk hik]; exact ho, fun e he hb => (hle _).1 (h2 e he hb)⟩⟩
      have h3 : listed.getD i false = false := by simp [hls, hilt] at h1 ⊢; exact h1
      have h4 : la.getD i false = false := by
        cases hl : la.getD i false with
        | false => rfl
        | true => rw [(hle i).2 hl] at h3; cases h3
      simp [hla, hik] at h4 ⊢; exact h4
    have ne : Region.ready .any ops listed ≠ [] := by
      obtain ⟨j, hj, hj2⟩ := ex
      have key : ∀ i, i < k → la.getD i false = false → ∃ q, q ∈ Region.ready .any ops listed := by
        intro i
        induction i using Nat.strongRecOn with
        | _ i ihi =>
          intro hi hil
          by_cases hx : ∃ e ∈ (ops[i]'(by omega)).after, Region.binds .any e = true ∧ listed.getD e.on false = false
          · obtain ⟨e, he, hb, hl⟩ := hx
            have h1 := onlt i _ (by simp) e he hb
            refine ihi e.on h1 (by omega) ?_
            cases hq : la.getD e.on false with
            | false => rfl
            | true => rw [(hle _).2 hq] at hl; cases hl
          · refine ⟨i, mem_ready.2 ⟨?_, ops[i]'(by omega), by simp, fun e he hb => ?_⟩⟩
            · have : listed.getD i false = false := by
                cases hq : listed.getD i false with
                | false => rfl
                | true => rw [(hle i).1 hq] at hil; cases hil
              simp [hls, show i < ops.size by omega] at this ⊢; exact this
            · cases hq : listed.getD e.on false with
              | true => rfl
              | false => exact absurd ⟨e, he, hb, hq⟩ hx
      obtain ⟨q, hq⟩ := key j hj hj2
      intro h; rw [h] at hq; cases hq
    refine ⟨fun h => absurd h ne, fun i hi => ?_⟩
    obtain ⟨hik, hiA⟩ := rdy i hi
    obtain ⟨hun, o, ho, hall⟩ := mem_ready.1 hi
    have hilt := (Array.getElem?_eq_some_iff.1 ho).1
    have hunA : la.getD i false = false := by
      cases hl : la.getD i false with
      | false => rfl
      | true =>
        have := (hle i).2 hl
        simp [hls, hilt] at hun this
        rw [hun] at this; cases this
    have hop := hw.2 i hiA
    have next : ∀ a' w', wpAny P .any (ops.extract 0 k) (QK Q K) fuel (la.setIfInBounds i true) a' w' → wpAny P .any ops Q (fuel + (ops.size - k)) (listed.setIfInBounds i true) a' w' := fun a' w' h =>
      ih (la.setIfInBounds i true) (listed.setIfInBounds i true) a' w' (by simp [hla]) (by simp [hls])
        (fun j => by rw [set_iff (by omega) j, set_iff (by omega) j, hle j])
        (fun p q hpq hp => by
          rw [set_iff (by omega)] at hp ⊢
          rcases hp with rfl | hp
          · right
            obtain ⟨o', ho', e, he, hb, hon⟩ := hpq
            rw [ho] at ho'; cases ho'
            rw [← hon]; exact hall e he hb
          · exact .inr (hcl p q hpq hp))
        (by rw [cnt_set (by omega) hunA]; omega) h
    have hA : (ops.extract 0 k)[i]? = some o := by rw [ext_get hk hik]; exact ho
    unfold wpOp at hop ⊢
    rw [hA] at hop
    rw [ho]
    simp only at hop ⊢
    have hwant : Region.wanted o (yielded (ops.extract 0 k) a.tmps) = Region.wanted o (yielded ops a.tmps) := by
      unfold Region.wanted
      cases hg : o.guard with
      | none => rfl
      | some p =>
        obtain ⟨j, want⟩ := p
        have h1 := flow i o ho
        simp only [flowAt, Bool.and_eq_true, hg] at h1
        obtain ⟨e, he, h2⟩ := Array.any_eq_true'.1 h1.1.2
        simp only [Bool.and_eq_true] at h2
        have h3 := onlt i o ho e he h2.1
        rw [Nat.eq_of_beq_eq_true h2.2] at h3
        simp only [yielded, ext_get hk (show j < k by omega)]
    rw [hwant] at hop
    split
    · rename_i hw'
      rw [if_pos hw'] at hop
      exact hop.imp (wp_qk next) (fun h => h)
    · rename_i hw'
      rw [if_neg hw'] at hop
      exact next _ _ hop
theorem any_suffix {P : Program} {F : Fr} [GF P F] {nt k : Nat} {ops : Array Oper} {H : List Ob} {bs : List Bool} {rq : List Req} {E : Nat → List (Nat × D)} {V : Nat → D} (hfl : flowB ops = true) (hk : k ≤ ops.size)
    (hT : Trace P nt ops H bs rq k ops.size E V) (hb : ∀ b ∈ bs, b = true) (hq : ∀ q ∈ rq, q.ok P) (hV : ∀ i t, i < k → (ops[i]?).bind (·.dst) = some t → V i = find (E k) t)
    {Q : Exit → Act → World → Prop} (orc : List Res) (hQ : ∀ a c, RInv F nt ops ops.size ⟨E ops.size, H, orc⟩ a c → Q .normal a c.w) :
    ∀ (fuel : Nat) (listed : Array Bool) (a : Act) (c : Ctx), (∀ i, i < k → listed.getD i false = true) → DInv F nt ops H V (E k) listed a c → cnt listed + fuel = ops.size → wpAny P .any ops Q fuel listed a c.w := by
  have hnd : dstsB ops = true := by simp only [flowB, Bool.and_eq_true] at hfl; exact hfl.1
  have flow := flow_of hfl
  have base : ∀ t, find (E k) t = valL ops V (E k) (· < k) t := fun t => by
    by_cases hx : ∃ i, (ops[i]?).bind (·.dst) = some t ∧ i < k
    · obtain ⟨i, h1, h2⟩ := hx
      rw [valL_some hnd h1 h2, hV i t h2 h1]
    · rw [valL_none fun i h1 h2 => hx ⟨i, h1, h2⟩]
  have val : ∀ m, k ≤ m → m ≤ ops.size → ∀ t, find (E m) t = valL ops V (E k) (· < m) t := fun m h1 h2 t => by
    have := env_from hnd (E := E) (V := V) (env0 := E k) (nt := nt) (k0 := k) (n := ops.size) base (fun i h1 h2 => hT.put i h1 h2) (m - k) (by omega) t
    rwa [show k + (m - k) = m by omega] at this
  have fin : ∀ (listed : Array Bool) a c, DInv F nt ops H V (E k) listed a c → (∀ i, i < ops.size → listed.getD i false = true) → Q .normal a c.w := fun listed a c hD hall => by
    have hval : ∀ t, find (E ops.size) t = valL ops V (E k) (fun i => listed.getD i false = true) t := fun t => by
      rw [val ops.size hk (Nat.le_refl _) t]
      refine valL_congr hnd fun i hi => ⟨fun h => hall i h, fun _ => ?_⟩
      obtain ⟨o, ho, _⟩ := Option.bind_eq_some_iff.1 hi
      exact (Array.getElem?_eq_some_iff.1 ho).1
    refine hQ a c ⟨hD.H, hD.inv, fun t => ?_, hD.size, hD.defers, fun t j w d hf => ?_⟩
    · show GV _ _ _ (find (E ops.size) t)
      rw [hval]; exact hD.env t
    · have hf : find (E ops.size) t = .opt j w d := hf
      rw [hval] at hf
      have := hD.opt t j w d hf
      rcases Nat.lt_or_ge j listed.size with h | h
      · rw [hD.lsize] at h; exact h
      · simp [Array.getElem?_eq_none h] at this
  have stuckAll : ∀ (listed : Array Bool), listed.size = ops.size → Region.ready .any ops listed = [] → ∀ i, i < ops.size → listed.getD i false = true := by
    intro listed hls hr i
    induction i using Nat.strongRecOn with
    | _ i ih =>
      intro hi
      cases hl : listed.getD i false with
      | true => rfl
      | false =>
        exfalso
        have : i ∈ Region.ready .any ops listed := by
          rw [mem_ready]
          refine ⟨by simp [hls, hi] at hl ⊢; exact hl, ops[i], by simp [hi], fun e he hbi => ?_⟩
          have h1 := flow i ops[i] (by simp [hi])
          simp only [flowAt, Bool.and_eq_true] at h1
          have h2 := Array.all_eq_true'.1 h1.1.1 e he
          simp only [hbi, Bool.not_true, Bool.false_or] at h2
          have h3 := blt_true h2
          exact ih e.on h3 (by omega)
        rw [hr] at this
        cases this
  intro fuel
  induction fuel with
  | zero =>
    intro listed a c hpre hD hcnt
    have hls := hD.lsize
    have hall : ∀ i, i < ops.size → listed.getD i false = true := by
      have := cnt_full (listed := listed) (by rw [hls]; omega)
      rw [hls] at this
      exact this
    refine ⟨?_, fin listed a c hD hall⟩
    cases hr : Region.ready .any ops listed with
    | nil => rfl
    | cons i r =>
      exfalso
      have : i ∈ Region.ready .any ops listed := by rw [hr]; exact List.mem_cons_self
      obtain ⟨h1, o, ho, _⟩ := mem_ready.1 this
      have hi := (Array.getElem?_eq_some_iff.1 ho).1
      have h2 := hall i hi
      simp [hls, hi] at h1 h2
      rw [h1] at h2
      cases h2
  | succ fuel ih =>
    intro listed a c hpre hD hcnt
    have hls := hD.lsize
    refine ⟨fun hr => fin listed a c hD (stuckAll listed hls hr), fun i hi => ?_⟩
    obtain ⟨hun, o, ho, hall⟩ := mem_ready.1 hi
    have hilt := (Array.getElem?_eq_some_iff.1 ho).1
    have hunf : listed.getD i false = false := by simp [hls, hilt] at hun ⊢; exact hun
    have hki : k ≤ i := by
      rcases Nat.lt_or_ge i k with h | h
      · rw [hpre i h] at hunf; cases hunf
      · exact h
    have hcn : cnt (listed.setIfInBounds i true) + fuel = ops.size := by
      rw [cnt_set (by rw [hls]; exact hilt) hunf]; omega
    obtain ⟨o', orc0, b, r, orc1, ho', hstep, hbb, hrr⟩ := hT.step i hki hilt
    rw [ho] at ho'
    cases ho'
    refine dstep hfl hD ho hunf hall (val i hki (by omega)) hstep (fun x hx => hb x (hbb x hx)) (fun q hq' => hq q (hrr q hq')) (fun t ht => ?_) fun a' c' hD' => ih _ _ c' (fun j hj => ?_) hD' hcn
    · obtain ⟨o2, ho2, h3⟩ := hT.put i hki hilt
      rw [ho] at ho2
      cases ho2
      rw [ht] at h3
      simp only [putE] at h3
      cases hlt : Nat.blt t nt with
      | false => simp [hlt] at h3
      | true => exact blt_true hlt
    · rw [getD_set_ne false (by omega)]; exact hpre j hj
theorem any_regionA {P : Program} {Q : Exit → St → Prop} {s : St} {ops : Array Oper} (ws : List Nat) (orc : List Res) (keep : List Nat) (hn : Nat) {s' : St} {bs : List Bool} {rq : List Req}
    (h : regA P ops ws orc keep hn s = some (s', bs, rq)) (hb : ∀ b ∈ bs, b = true) (hq : ∀ q ∈ rq, q.ok P) {F : Fr} {a : Act} {w : World} (hG : GF P F) (hR : Rel F s a w) {K : Act → World → Prop} {Q' : Exit → Act → World → Prop} (hK : ∀ a w, Rel F s' a w → K a w) :
    P.follows .mixedOrders = true ∧ wpAny P .any ops (QK Q' K) ops.size (Array.replicate ops.size false) a w.drew := by
  obtain ⟨c, rfl, hH, hI, henv, hsz, hd⟩ := hR
  unfold regA at h
  cases hc : (flowB ops && P.follows .mixedOrders && cordB ops ws && s.H.all (cleanO s.H.length) && s.env.all (fun p => !mt s.H.length p.2) && ws.all (fun w => Nat.ble w (lastW ws))) with
  | false => rw [hc] at h; cases h
  | true =>
    rw [hc] at h
    simp only [cond_true] at h
    simp only [Bool.and_eq_true] at hc
    obtain ⟨⟨⟨⟨⟨hc1, hc2⟩, hc3⟩, hc4⟩, hc5⟩, hc6⟩ := hc
    refine ⟨hc2, ?_⟩
    split at h <;> try cases h
    rename_i env' H' t d bs0 rq0 orc0 hrun
    obtain ⟨s1, hcut, heq⟩ := Option.map_eq_some_iff.1 h
    simp only [Prod.mk.injEq] at heq
    obtain ⟨rfl, rfl, rfl⟩ := heq
    obtain ⟨E, HH, CH, V, hE0, hH0, hC0, hE1, hH1, hC1, hT⟩ := traceA_of ops.toList 0 s.env env' s.H H' none (some (t, d)) orc orc0 bs0 rq0 (fun j => .inl (by simp)) hrun
    simp only [Array.length_toList, Nat.zero_add] at hE1 hH1 hC1 hT
    let c' : Ctx := { c with w := c.w.drew }
    have hgo : Goes c c' := ⟨rfl, rfl, fun _ h => h, fun _ _ => rfl, fun b hb => (hI.imm b hb).1, fun id b hb => (hI.loc id b hb).2.1⟩
    have hI' : Inv F c' := hI.goes hgo (Bw.refl _ _).drew (fun _ h => .inl h)
    have hnone : ∀ i, ¬ (Array.replicate ops.size false).getD i false = true := fun i h => by rw [getD_rep_false] at h; cases h
    have hval : ∀ t, valL ops V (E 0) (fun i => (Array.replicate ops.size false).getD i false = true) t = find s.env t := fun t => by rw [valL_none (fun i _ => hnone i), hE0]
    have hD : AInv F s.nt ops ws HH CH V (E 0) (Array.replicate ops.size false) a c' := by
      refine ⟨⟨0, Nat.zero_le _, hH.trans hH0.symm, fun w _ h => by omega, fun w _ _ => by rw [getD_rep_false], fun t0 d0 h => by rw [hC0] at h; cases h⟩, hI', fun t => ?_, hsz, hd, fun t j w d hf => ?_, by simp, fun i j _ h => absurd h (hnone i)⟩
      · rw [hval]; exact gv_of_tv (hgo.tv (henv t))
      · rw [hval] at hf
        have := henv t
        rw [hf] at this
        simp only [TV, AV] at this
        exact absurd this cv_not_opt
    refine drawA_sound (H0 := s.H) hc1 hc3 hc4 (fun w hw => Nat.le_of_ble_eq_true (List.all_eq_true.1 hc6 w hw)) (by rw [hE0]; exact find_clean hc5) hT hH0 hC0 hb hq [] hC1 (fun a' c'' hR => ?_) ops.size _ a c' hD (by simp [cnt, List.countP_replicate])
    have hR' := rinv_fin hR keep
    simp only [hE1, hH1] at hR'
    exact hK _ _ (le_cut hcut F a' c''.w hR')
theorem countP_pre : ∀ (l : List Bool) (m : Nat), m ≤ l.length → (∀ i, i < l.length → (l.getD i false = true ↔ i < m)) → l.countP id = m := by
  intro l
  induction l with
  | nil => intro m hm _; simp at hm; simp [hm]
  | cons x l ihl =>
    intro m hm hx
    cases m with
    | zero =>
      have : x = false := by
        have := hx 0 (by simp)
        simpa using this
      rw [this, List.countP_cons_of_neg (by simp)]
      exact ihl 0 (Nat.zero_le _) fun i hi => by
        have := hx (i + 1) (by simpa using hi)
        simpa using this
    | succ m =>
      have : x = true := by
        have := hx 0 (by simp)
        simpa using this
      rw [this, List.countP_cons_of_pos (by simp)]
      rw [ihl m (by simpa using hm) fun i hi => by
        have := hx (i + 1) (by simpa using hi)
        simpa using this]
def regZ (P : Program) (ops : Array Oper) (k : Nat) (orc : List Res) (keep : List Nat) (hn : Nat) (s : St) : Option (St × List Bool × List Req) :=
  bif flowB ops && cutAt ops k && Nat.ble k ops.size then
    match runDr P s.nt ops s.H k (ops.toList.drop k) s.env orc with
    | some (e3, bs, rq, _) => (cutS hn ⟨s.nt, fin e3 keep, s.H⟩).map fun s' => (s', bs, rq)
    | none => none
  else none
theorem awp_regionY {P : Program} {Q : Exit → St → Prop} {s s1 s2 s' : St} {id : Nat} {ops : Array Oper} (k : Nat) (ws : List Nat) (orcA : List Res) (keepA : List Nat) (hnA : Nat) {bsA : List Bool} {rqA : List Req}
    (hA : regA P (ops.extract 0 k) ws orcA keepA hnA s = some (s1, bsA, rqA)) (hbA : ∀ b ∈ bsA, b = true) (hqA : ∀ q ∈ rqA, q.ok P) (hle : Le s1 s2)
    (orcB : List Res) (keep : List Nat) (hn : Nat) {bsB : List Bool} {rqB : List Req} (hB : regZ P ops k orcB keep hn s2 = some (s', bsB, rqB)) (hbB : ∀ b ∈ bsB, b = true) (hqB : ∀ q ∈ rqB, q.ok P) (hQ : Q .normal s') : AWP P (.region id ops true) Q s := by
  intro F a w hG hR
  unfold regZ at hB
  cases hc : (flowB ops && cutAt ops k && Nat.ble k ops.size) with
  | false => rw [hc] at hB; cases hB
  | true =>
    rw [hc] at hB
    simp only [cond_true] at hB
    simp only [Bool.and_eq_true] at hc
    obtain ⟨⟨hfl, hct⟩, hk⟩ := hc
    have hk := Nat.le_of_ble_eq_true hk
    have hnd : dstsB ops = true := by simp only [flowB, Bool.and_eq_true] at hfl; exact hfl.1
    split at hB <;> try cases hB
    rename_i e3 bs3 rq3 orc3 hrun
    obtain ⟨s3, hcut, heq⟩ := Option.map_eq_some_iff.1 hB
    simp only [Prod.mk.injEq] at heq
    obtain ⟨rfl, rfl, rfl⟩ := heq
    obtain ⟨E, V, hE, hE', hT⟩ := trace_of (ops.toList.drop k) k s2.env e3 orcB orc3 bs3 rq3 (fun j => .inl (by rw [List.getElem?_drop]; simp)) hrun
    have l2 : k + (ops.toList.drop k).length = ops.size := by rw [List.length_drop, Array.length_toList]; omega
    rw [l2] at hE' hT
    obtain ⟨hmo, hany⟩ := any_regionA ws orcA keepA hnA hA hbA hqA (Q := Q) (Q' := fun e a' w' => ∃ s', Q e s' ∧ Rel F s' a' w') hG hR (K := fun a w => Rel F s2 a w) (fun a w h => hle F a w h)
    have esz : (ops.extract 0 k).size = k := by rw [Array.size_extract]; omega
    rw [esz] at hany
    refine wp_region_any hmo ?_
    have hfin := any_prefix (P := P) (Q := fun e a' w' => ∃ s', Q e s' ∧ Rel F s' a' w') (K := fun a w => Rel F s2 a w) hk hfl hct (fun a w hR2 listed hls hl => by
      obtain ⟨c, rfl, hH, hI, henv, hsz, hd⟩ := hR2
      let V' : Nat → D := fun i => if i < k then (match (ops[i]?).bind (·.dst) with | some t => find (E k) t | none => .any) else V i
      have hT' : Trace P s2.nt ops s2.H bs3 rq3 k ops.size E V' := ⟨fun i h1 h2 => by
          have : V' i = V i := if_neg (by omega)
          rw [this]; exact hT.step i h1 h2, fun i h1 h2 => by
          have : V' i = V i := if_neg (by omega)
          rw [this]; exact hT.put i h1 h2⟩
      have hV' : ∀ i t, i < k → (ops[i]?).bind (·.dst) = some t → V' i = find (E k) t := fun i t hi ht => by
        show (if i < k then _ else _) = _
        rw [if_pos hi, ht]
      have hval : ∀ t, valL ops V' (E k) (fun i => listed.getD i false = true) t = find s2.env t := fun t => by
        rw [← hE]
        by_cases hx : ∃ i, (ops[i]?).bind (·.dst) = some t ∧ listed.getD i false = true
        · obtain ⟨i, h1, h2⟩ := hx
          rw [valL_some hnd h1 h2, hV' i t ((hl i).1 h2) h1]
        · rw [valL_none fun i h1 h2 => hx ⟨i, h1, h2⟩]
      have hD : DInv F s2.nt ops s2.H V' (E k) listed a c := by
        refine ⟨hH, hI, fun t => ?_, hsz, hd, fun t j w d hf => ?_, hls, fun i j hij h => ?_⟩
        · rw [hval]; exact gv_of_tv (henv t)
        · rw [hval] at hf
          have := henv t
          rw [hf] at this
          simp only [TV, AV] at this
          exact absurd this cv_not_opt
        · obtain ⟨o, ho, e, he, hb, hon⟩ := hij
          have h1 := flow_of hfl i o ho
          simp only [flowAt, Bool.and_eq_true] at h1
          have h2 := Array.all_eq_true'.1 h1.1.1 e he
          simp only [hb, Bool.not_true, Bool.false_or] at h2
          have h3 := blt_true h2
          rw [hl] at h ⊢
          omega
      have hcnt : cnt listed = k := by
        unfold cnt
        refine countP_pre listed.toList k (by rw [Array.length_toList]; omega) fun i hi => ?_
        rw [← hl i]
        simp
      exact any_suffix hfl hk hT' hbB hqB hV' [] (fun a' c'' hR' => ⟨_, hQ, by
        have h5 := rinv_fin hR' keep
        simp only [hE'] at h5
        exact le_cut hcut F a' c''.w h5⟩) (ops.size - k) listed a c (fun i hi => (hl i).2 hi) hD (by omega))
      k (Array.replicate k false) (Array.replicate ops.size false) a w.drew (by simp) (by simp) (fun i => by rw [getD_rep_false, getD_rep_false]) (fun i j _ h => by rw [getD_rep_false] at h; cases h) (by simp [cnt, List.countP_replicate]) hany
    rw [show k + (ops.size - k) = ops.size by omega] at hfin
    exact hfin
theorem rgy {P : Program} {Q : Exit → St → Prop} {s : St} {id : Nat} {ops : Array Oper} (k : Nat) (ws : List Nat) (orcA : List Res) (keepA : List Nat) (hnA : Nat) (s1 : St) (bsA : List Bool) (rqA : List Req) (hbA : ∀ b ∈ bsA, b = true) (hqA : Reqs P rqA) (s2 : St) (hle : Le s1 s2)
    (orcB : List Res) (keep : List Nat) (hn : Nat) (s' : St) (bsB : List Bool) (rqB : List Req) (hbB : ∀ b ∈ bsB, b = true) (hqB : Reqs P rqB) (hQ : Q .normal s')
    (hA : regA P (ops.extract 0 k) ws orcA keepA hnA s = some (s1, bsA, rqA) := by kernel_rfl) (hB : regZ P ops k orcB keep hn s2 = some (s', bsB, rqB) := by kernel_rfl) : AWP P (.region id ops true) Q s :=
  awp_regionY k ws orcA keepA hnA hA hbA hqA.all hle orcB keep hn hB hbB hqB.all hQ
end Nv
namespace Nv
open Go
def clrL {α : Type} [Inhabited α] (l : List α) (off len : Nat) (z : α) : List α := (List.range l.length).map fun i => bif Nat.ble off i && Nat.blt i (off + len) then z else l.getD i default
theorem clrL_len {α : Type} [Inhabited α] (l : List α) (off len : Nat) (z : α) : l.length = (clrL l off len z).length := by simp [clrL]
theorem clrL_ext {α : Type} [Inhabited α] (c : α → List D) (l : List α) (off len : Nat) (z : α) (zs : List D) (h : zs = c z) : ∀ i, i < l.length → clrR zs off len (fun i => c (l.getD i default)) i = c ((clrL l off len z).getD i default) := by
  subst h
  intro i hi
  have e : (clrL l off len z).getD i default = bif Nat.ble off i && Nat.blt i (off + len) then z else l.getD i default := by simp [clrL, hi]
  rw [e]
  unfold clrR
  cases (Nat.ble off i && Nat.blt i (off + len)) <;> rfl
theorem len_pre {α : Type} {l : List α} {m : Nat} (h : decide (m ≤ l.length) = true) : m = (l.take m).length := by
  have := of_decide_eq_true h
  rw [List.length_take]; omega
theorem pre_ext {α : Type} [Inhabited α] (c : α → List D) {f : Nat → List D} {l : List α} {m n : Nat} (hn : n = l.length) (hf : ∀ i, i < n → f i = c (l.getD i default)) (h : decide (m ≤ l.length) = true) : ∀ i, i < m → (fun k => f (0 + k)) i = c ((l.take m).getD i default) := fun i hi => by
  have := of_decide_eq_true h
  show f (0 + i) = _
  rw [Nat.zero_add, hf i (by omega)]
  congr 1
  simp [List.getElem?_take, hi]
def OutM (P : Program) (fn : Func) (wd n : Nat) (g' : Nat → List D) (r : D) (e : Exit) (s : St) : Prop := e = .ret ∧ EndsM P fn wd n g' r .ret s
end Nv
