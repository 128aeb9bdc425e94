/- A region that draws its order, carried out. -/
import Derived.Test.YtmangnohekiphaaNvDraw
namespace Nv
open Go Go.RowKit

structure DInv (F : Fr) (nt : Nat) (ops : Array Oper) (H : List Ob) (V : Nat → D) (env0 : List (Nat × D)) (listed : Array Bool) (a : Act) (c : Ctx) : Prop where
  H : c.H = H
  inv : Inv F c
  env : ∀ t, GV (yielded ops a.tmps) c (a.tmps.getD t undef) (valL ops V env0 (fun i => listed.getD i false = true) t)
  size : a.tmps.size = nt
  defers : a.defers = []
  opt : ∀ t j w d, valL ops V env0 (fun i => listed.getD i false = true) t = .opt j w d → listed.getD j false = true
  lsize : listed.size = ops.size
  closed : ∀ i j, Waits ops i j → listed.getD i false = true → listed.getD j false = true

def cnt (listed : Array Bool) : Nat := listed.toList.countP id
theorem cnt_set {listed : Array Bool} {i : Nat} (hi : i < listed.size) (h : listed.getD i false = false) : cnt (listed.setIfInBounds i true) = cnt listed + 1 := by
  unfold cnt
  rw [Array.toList_setIfInBounds, List.countP_set (by simpa using hi)]
  have : listed.toList[i] = false := by
    simp [hi] at h
    simpa using h
  simp [this]
theorem cnt_full {listed : Array Bool} (h : cnt listed = listed.size) : ∀ i, i < listed.size → listed.getD i false = true := by
  unfold cnt at h
  intro i hi
  have h' : listed.toList.countP id = listed.toList.length := by rw [Array.length_toList]; exact h
  have := List.countP_eq_length.1 h' listed.toList[i] (List.getElem_mem (by simpa using hi))
  simpa [hi] using this

theorem closed_reach {ops : Array Oper} {listed : Array Bool} (hc : ∀ i j, Waits ops i j → listed.getD i false = true → listed.getD j false = true) {i k : Nat} (h : Reach ops i k) :
    (∀ j, Waits ops i j → listed.getD j false = true) → listed.getD k false = true := by
  induction h with
  | one h => exact fun hw => hw _ h
  | step h r ih => exact fun hw => ih fun j hj => hc _ _ hj (hw _ h)

/-- **A region that draws its order**: every order gives what the text's order gives. -/
theorem draw_sound {P : Program} {F : Fr} {nt : Nat} {ops : Array Oper} {H : List Ob} {bs : List Bool} {rq : List Req} {E : Nat → List (Nat × D)} {V : Nat → D} (hfl : flowB ops = true)
    (hT : Trace P nt ops H bs rq 0 ops.size E V) (hb : ∀ b ∈ bs, b = true) (hq : ∀ q ∈ rq, q.ok P) {Q : Exit → Act → World → Prop} (orc : List Res)
    (hQ : ∀ a c, RInv F nt ops ops.size ⟨E ops.size, H, orc⟩ a c → Q .normal a c.w) :
    ∀ (fuel : Nat) (listed : Array Bool) (a : Act) (c : Ctx), DInv F nt ops H V (E 0) listed a c → cnt listed + fuel = ops.size → wpAny P .any ops Q fuel listed a c.w := by
  simp only [flowB, Bool.and_eq_true, List.all_eq_true] at hfl
  obtain ⟨hnd, hfl⟩ := hfl
  have flow : ∀ i o, ops[i]? = some o → flowAt ops (Region.before ops) i o = true := fun i o ho => by
    have hlt := (Array.getElem?_eq_some_iff.1 ho).1
    refine hfl (o, i) ?_
    rw [List.mem_zipIdx_iff_getElem?]
    simpa using ho
  have fin : ∀ (listed : Array Bool) a c, DInv F nt ops H V (E 0) listed a c → (∀ i, i < ops.size → listed.getD i false = true) → Q .normal a c.w := fun listed a c hD hall => by
    have hval : ∀ t, find (E ops.size) t = valL ops V (E 0) (fun i => listed.getD i false = true) t := fun t => by
      rw [env_val hnd hT ops.size (Nat.le_refl _) t]
      refine valL_congr hnd fun i hi => ⟨fun h => hall i h, fun _ => ?_⟩
      obtain ⟨o, ho, _⟩ := Option.bind_eq_some_iff.1 hi
      exact (Array.getElem?_eq_some_iff.1 ho).1
    refine hQ a c ⟨hD.H, hD.inv, fun t => ?_, hD.size, hD.defers, fun t j w d hf => ?_⟩
    · show GV _ _ _ (find (E ops.size) t)
      rw [hval]; exact hD.env t
    · have hf : find (E ops.size) t = .opt j w d := hf
      rw [hval] at hf
      have := hD.opt t j w d hf
      rcases Nat.lt_or_ge j listed.size with h | h
      · rw [hD.lsize] at h; exact h
      · simp [Array.getElem?_eq_none h] at this
  -- nothing is ready: all are listed
  have stuckAll : ∀ (listed : Array Bool), listed.size = ops.size → Region.ready .any ops listed = [] → ∀ i, i < ops.size → listed.getD i false = true := by
    intro listed hls hr i
    induction i using Nat.strongRecOn with
    | _ i ih =>
      intro hi
      cases hl : listed.getD i false with
      | true => rfl
      | false =>
        exfalso
        have : i ∈ Region.ready .any ops listed := by
          rw [mem_ready]
          refine ⟨by simp [hls, hi] at hl ⊢; exact hl, ops[i], by simp [hi], fun e he hbi => ?_⟩
          have h1 := flow i ops[i] (by simp [hi])
          simp only [flowAt, Bool.and_eq_true] at h1
          have h2 := Array.all_eq_true'.1 h1.1.1 e he
          simp only [hbi, Bool.not_true, Bool.false_or] at h2
          have h3 := blt_true h2
          exact ih e.on h3 (by omega)
        rw [hr] at this
        cases this
  intro fuel
  induction fuel with
  | zero =>
    intro listed a c hD hcnt
    have hall : ∀ i, i < ops.size → listed.getD i false = true := by
      have := cnt_full (listed := listed) (by rw [hD.lsize]; omega)
      rw [hD.lsize] at this
      exact this
    refine ⟨?_, fin listed a c hD hall⟩
    cases hr : Region.ready .any ops listed with
    | nil => rfl
    | cons i r =>
      exfalso
      have : i ∈ Region.ready .any ops listed := by rw [hr]; exact List.mem_cons_self
      obtain ⟨h1, o, ho, _⟩ := mem_ready.1 this
      have hi := (Array.getElem?_eq_some_iff.1 ho).1
      have h2 := hall i hi
      simp [hD.lsize, hi] at h1 h2
      rw [h1] at h2
      cases h2
  | succ fuel ih =>
    intro listed a c hD hcnt
    refine ⟨fun hr => fin listed a c hD (stuckAll listed hD.lsize hr), fun i hi => ?_⟩
    obtain ⟨hun, o, ho, hall⟩ := mem_ready.1 hi
    have hilt := (Array.getElem?_eq_some_iff.1 ho).1
    have hunf : listed.getD i false = false := by simp [hD.lsize, hilt] at hun ⊢; exact hun
    have hwaits : ∀ j, Waits ops i j → listed.getD j false = true := fun j ⟨o', ho', e, he, hbi, hon⟩ => by
      rw [ho] at ho'
      cases ho'
      rw [← hon]
      exact hall e he hbi
    obtain ⟨o', orc0, b, r, orc1, ho', hstep, hb1, hr1⟩ := hT.step i (Nat.zero_le _) hilt
    rw [ho] at ho'
    cases ho'
    have hfa := flow i o ho
    simp only [flowAt, Bool.and_eq_true] at hfa
    obtain ⟨⟨hf1, hf2⟩, hf3⟩ := hfa
    -- what the operation looks at has its value of the text's order
    have same : ∀ t ∈ needs ops o, valL ops V (E 0) (fun i => listed.getD i false = true) t = find (E i) t := fun t ht => by
      rw [env_val hnd hT i (by omega) t]
      refine valL_congr hnd fun k hk => ?_
      have h1 := List.all_eq_true.1 hf3 t ht
      obtain ⟨ok, hok, hdk⟩ := Option.bind_eq_some_iff.1 hk
      have hklt := (Array.getElem?_eq_some_iff.1 hok).1
      have h2 := List.all_eq_true.1 h1 (ok, k) (by rw [List.mem_zipIdx_iff_getElem?]; simpa using hok)
      simp only [hdk] at h2
      have e1 : Nat.beq t t = true := Nat.beq_refl t
      rw [e1] at h2
      simp only [Bool.not_true, Bool.false_or, Bool.or_eq_true, Bool.and_eq_true] at h2
      rcases h2 with (h2 | ⟨h2, h3⟩) | ⟨h2, h3⟩
      · obtain rfl := Nat.eq_of_beq_eq_true h2
        exact ⟨fun h => (by rw [hunf] at h; cases h), fun h => by omega⟩
      · exact ⟨fun _ => blt_true h2, fun _ => closed_reach hD.closed (before_reach ops i k hilt h3) hwaits⟩
      · have hik := blt_true h2
        refine ⟨fun h => ?_, fun h => by omega⟩
        have := closed_reach hD.closed (before_reach ops k i hklt h3) (fun j hj => hD.closed _ _ hj h)
        rw [hunf] at this
        cases this
    have hops : ∀ x ∈ o.op.operands.toList, GV (yielded ops a.tmps) c (a.eval x) (evD (E i) x) := fun x hx => by
      cases x with
      | tmp t =>
        show GV _ _ _ (find (E i) t)
        rw [← same t (by simp only [needs, List.mem_append, List.mem_filterMap]; exact .inl ⟨.tmp t, hx, rfl⟩)]
        exact hD.env t
      | const v => exact gv_of_tv (tv_dv c v)
      | global g => exact gv_of_tv tv_any
      | func f => exact gv_of_tv ⟨#[], rfl, rfl, fun i v d h1 _ => by simp at h1⟩
    have hgf : GuardFacts ops a c (E i) (gch ops 20 o.guard) := fun p hp t ht => by
      rw [← same t (by simp only [needs, List.mem_append, List.mem_filterMap]; exact .inr ⟨p, hp, ht⟩)]
      exact hD.env t
    -- the new state
    have new : ∀ v c', Inv F c' → Goes c c' → (∀ d, V i = d → GV (yielded ops (a.put o.dst v).tmps) c' v d) → (∀ j w d, V i = .opt j w d → listed.getD j false = true) →
        wpAny P .any ops Q fuel (listed.setIfInBounds i true) (a.put o.dst v) c'.w := fun v c' hI' hgo hv hvo => by
      have hL : ∀ j, (listed.setIfInBounds i true).getD j false = true ↔ j = i ∨ listed.getD j false = true := fun j => by
        by_cases hji : j = i
        · subst hji; simp [hD.lsize, hilt]
        · rw [getD_set_ne false (Ne.symm hji)]; simp [hji]
      have hvalo : ∀ t, (∀ u, o.dst = some u → u ≠ t) → valL ops V (E 0) (fun j => (listed.setIfInBounds i true).getD j false = true) t = valL ops V (E 0) (fun j => listed.getD j false = true) t := fun t ht => by
        refine valL_congr hnd fun k hk => ?_
        show (listed.setIfInBounds i true).getD k false = true ↔ _
        rw [hL]
        refine ⟨fun h => ?_, .inr⟩
        rcases h with rfl | h
        · rw [ho] at hk
          exact absurd rfl (ht t hk)
        · exact h
      have hyj : ∀ j, listed.getD j false = true → yielded ops (a.put o.dst v).tmps j = yielded ops a.tmps j := fun j hj => yielded_put fun t ht e => by
        have := dsts_spec hnd (show (ops[i]?).bind (·.dst) = some t by rw [ho]; exact ht) e
        subst this
        rw [hunf] at hj
        cases hj
      have keep : ∀ t, GV (yielded ops (a.put o.dst v).tmps) c' (a.tmps.getD t undef) (valL ops V (E 0) (fun j => listed.getD j false = true) t) := fun t => by
        have h1 := hgo.gv (hD.env t)
        cases hf : valL ops V (E 0) (fun j => listed.getD j false = true) t <;> rw [hf] at h1 <;> try exact h1
        rename_i j w d
        simp only [GV] at h1 ⊢
        rw [hyj j (hD.opt t j w d hf)]
        exact h1
      refine ih _ _ c' ⟨by rw [hgo.H]; exact hD.H, hI', fun t => ?_, by rw [size_put]; exact hD.size, by rw [defers_put]; exact hD.defers, fun t j w d hf => ?_, by simp [hD.lsize], fun p q hpq hp => ?_⟩ ?_
      · by_cases hdt : o.dst = some t
        · have hit : (ops[i]?).bind (·.dst) = some t := by rw [ho]; exact hdt
          rw [valL_some hnd hit ((hL i).2 (.inl rfl))]
          have htl : t < a.tmps.size := by
            obtain ⟨o2, ho2, hp⟩ := hT.put i (Nat.zero_le _) hilt
            rw [ho] at ho2
            cases ho2
            rw [hdt] at hp
            simp only [putE] at hp
            cases hlt : Nat.blt t nt with
            | false => simp [hlt] at hp
            | true => rw [hD.size]; exact blt_true hlt
          have e : (a.put o.dst v).tmps.getD t undef = v := by rw [hdt]; exact getD_put_same htl
          rw [e]
          exact hv _ rfl
        · rw [hvalo t (fun u hu e => hdt (by rw [hu, e])), getD_put hdt]
          exact keep t
      · rw [hL]
        right
        by_cases hdt : o.dst = some t
        · have hit : (ops[i]?).bind (·.dst) = some t := by rw [ho]; exact hdt
          rw [valL_some hnd hit ((hL i).2 (.inl rfl))] at hf
          exact hvo j w d hf
        · rw [hvalo t (fun u hu e => hdt (by rw [hu, e]))] at hf
          exact hD.opt t j w d hf
      · rw [hL] at hp ⊢
        right
        rcases hp with rfl | hp
        · exact hwaits q hpq
        · exact hD.closed p q hpq hp
      · rw [cnt_set (by rw [hD.lsize]; exact hilt) hunf]
        omega
    unfold stepDr at hstep
    split at hstep <;> try cases hstep
    rename_i g hg
    unfold wpOp
    simp only [ho]
    split at hstep
    · rename_i d bs0 rq0 orc2 j want hop hgd
      cases hlt : Nat.blt j i with
      | false => simp [hlt] at hstep
      | true =>
        simp only [hlt, cond_true, Option.some.injEq, Prod.mk.injEq] at hstep
        obtain ⟨hV, rfl, rfl, rfl⟩ := hstep
        have hji := blt_true hlt
        have hyj : ∀ v, yielded ops (a.put o.dst v).tmps j = yielded ops a.tmps j := fun v => yielded_put fun t ht e => by
          have := dsts_spec hnd (show (ops[i]?).bind (·.dst) = some t by rw [ho]; exact ht) e
          omega
        have hjl : listed.getD j false = true := by
          rw [hgd] at hf2
          simp only at hf2
          obtain ⟨e, he, h1⟩ := Array.any_eq_true'.1 hf2
          simp only [Bool.and_eq_true] at h1
          rw [← Nat.eq_of_beq_eq_true h1.2]
          exact hall e he h1.1
        have hwant : Region.wanted o (yielded ops a.tmps) = (yielded ops a.tmps j == some want) := by simp [Region.wanted, hgd]
        have hvo : ∀ j' w d', V i = .opt j' w d' → listed.getD j' false = true := fun j' w d' h => by rw [← hV] at h; cases h; exact hjl
        cases hw : Region.wanted o (yielded ops a.tmps) with
        | true =>
          simp only [if_true]
          refine .inl (op_sound hD.inv hops hgf hg hw (by rw [hD.H]; exact hop) (fun b hb' => hb b (hb1 b hb')) (fun q hq' => hq q (hr1 q hq')) fun v c' hI' haf => ?_)
          obtain ⟨hgo, _, htv⟩ := haf
          refine new v c' hI' hgo (fun d' hd' => ?_) hvo
          rw [← hd', ← hV]
          refine .inl ⟨?_, htv⟩
          rw [hyj]
          rw [hw] at hwant
          simpa using hwant.symm
        | false =>
          simp only [Bool.false_eq_true, if_false]
          refine new undef c hD.inv (Goes.refl hD.inv) (fun d' hd' => ?_) hvo
          rw [← hd', ← hV]
          refine .inr ⟨?_, rfl⟩
          rw [hyj]
          rw [hw] at hwant
          simpa using hwant.symm
    · rename_i d bs0 rq0 orc2 hop hgd
      simp only [Option.some.injEq, Prod.mk.injEq] at hstep
      obtain ⟨hV, rfl, rfl, rfl⟩ := hstep
      have hw : Region.wanted o (yielded ops a.tmps) = true := by simp [Region.wanted, hgd]
      simp only [hw, if_true]
      refine .inl (op_sound hD.inv hops hgf hg hw (by rw [hD.H]; exact hop) (fun b hb' => hb b (hb1 b hb')) (fun q hq' => hq q (hr1 q hq')) fun v c' hI' haf => ?_)
      obtain ⟨hgo, _, htv⟩ := haf
      refine new v c' hI' hgo (fun d' hd' => ?_) (fun j w d' h => ?_)
      · rw [← hd', ← hV]; exact gv_of_tv htv
      · rw [← hV] at h
        subst h
        simp only [TV, AV] at htv
        exact absurd htv cv_not_opt
    · cases hstep
end Nv
