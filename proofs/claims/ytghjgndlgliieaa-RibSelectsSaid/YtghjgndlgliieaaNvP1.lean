/- The plain law of RibSelects: the selection is the documented one. -/
import Derived.Test.YtghjgndlgliieaaNvU2
import Derived.Test.YtghjgndlgliieaaNvR5
namespace Nv
open Go
theorem runN_none {β : Type} {g : Nat → Option β} {e : β} {n : Nat} (h : ∀ j, j < n → g j = none) : runN g e 0 n = e := by
  rcases runN_cases g e n 0 with ⟨j, _, h2, h3, _⟩ | ⟨h1, _⟩
  · rw [h j (by omega)] at h3; cases h3
  · exact h1
theorem getD_mem {l : List TRoute} {i : Nat} (hi : i < l.length) : l.getD i default ∈ l := by rw [List.getD_eq_getElem?_getD, List.getElem?_eq_getElem hi]; exact List.getElem_mem hi
theorem few_all {l : List TRoute} (h : S.law19_few l = true) : l.length ≤ 30 ∧ ∀ x ∈ l, S.ref15_Valid x = true := by
  unfold S.law19_few at h
  by_cases hl : (l.length : Int) > 30
  · rw [decide_eq_true hl] at h; cases h
  · rw [decide_eq_false hl] at h
    simp only [letS, cond_false] at h
    refine ⟨by omega, fun x hx => ?_⟩
    rcases runN_cases (S.law19_few_l1 l) (.inl ()) l.length 0 with ⟨j, _, _, h1, _⟩ | ⟨_, h2⟩
    · generalize runN (S.law19_few_l1 l) (.inl ()) 0 l.length = y at h h1
      unfold S.law19_few_l1 at h1
      simp only [letS] at h1
      obtain ⟨_, rfl⟩ := cond_some h1
      simp at h
    · obtain ⟨i, hi, rfl⟩ := List.getElem_of_mem hx
      have h3 := h2 i (Nat.zero_le _) (by omega)
      unfold S.law19_few_l1 at h3
      simp only [letS] at h3
      have h4 := cond_none h3
      rw [Bool.not_eq_false'] at h4
      simpa [hi] using h4
theorem q_Less2 {a b : TRoute} (wa : W_TRoute a) (wb : W_TRoute b) (va : S.ref15_Valid a = true) (vb : S.ref15_Valid b = true) : S.ref20_Less a b = S.rib_Less a b := by
  rw [q_Less]
  unfold S.ref20_Less rkey
  simp only [letS, cmpL]
  unfold cmpI
  by_cases h1 : a.fAdmin = b.fAdmin
  · by_cases h2 : a.fProto = b.fProto
    · have f0 : wr .i64 a.fFrom = a.fFrom := wr_i64 (u32_in wa.2.2.2.2.2.2.2.2.2.1)
      have f1 : wr .i64 b.fFrom = b.fFrom := wr_i64 (u32_in wb.2.2.2.2.2.2.2.2.2.1)
      have e := cmp_rank h2 (fun h => wr_i64 (by have := valid_pref va h; omega)) (fun h => wr_i64 (by have := valid_pref vb (by rw [← h2]; exact h); omega)) f0 f1 (valid_proto va)
      rw [q_ref, e]
      simp [h1, h2]
    · by_cases h3 : a.fProto < b.fProto
      · simp [h1, h2, h3]
      · have h4 : a.fProto > b.fProto := by omega
        simp [h1, h2, h3, h4]
  · by_cases h3 : a.fAdmin < b.fAdmin
    · simp [h1, h3]
    · have h4 : a.fAdmin > b.fAdmin := by omega
      simp [h1, h3, h4]
theorem same_rfl (x : TRoute) : S.ref15_Same x x = true := by
  unfold S.ref15_Same
  simp only [letS, beq_self_eq_true, bne_self_eq_false, Bool.and_true, Bool.not_true, Bool.or_false, Bool.false_or, cond_false]
  rw [runN_none (g := S.ref15_Same_l1 x x) (fun j _ => by unfold S.ref15_Same_l1; simp)]
  simp only [Sum.elim_inl]
  rw [runN_none (g := S.ref15_Same_l2 x x) (fun j _ => by unfold S.ref15_Same_l2; simp)]
  rfl
theorem sameAll_rfl (l : List TRoute) : S.ref15_SameAll l l = true := by
  unfold S.ref15_SameAll
  simp only [letS, bne_self_eq_false, cond_false]
  rw [runN_none (g := S.ref15_SameAll_l1 l l) (fun j _ => by unfold S.ref15_SameAll_l1; simp only [letS, same_rfl]; rfl)]
  rfl
/-- A route put where it belongs. -/
noncomputable def insR (x : TRoute) : List TRoute → List TRoute
  | [] => [x]
  | y :: t => bif decide (plt y.fPrefix x.fPrefix) then y :: insR x t else bif peq y.fPrefix x.fPrefix then (bif S.rib_Less x y then x :: t else y :: t) else x :: y :: t
def before (x : TRoute) : List TRoute → Nat
  | [] => 0
  | y :: t => bif decide (plt y.fPrefix x.fPrefix) then before x t + 1 else 0
theorem before_le (x : TRoute) : ∀ l : List TRoute, before x l ≤ l.length
  | [] => Nat.le_refl _
  | y :: t => by
    unfold before
    cases decide (plt y.fPrefix x.fPrefix) with
    | true => have := before_le x t; simp; omega
    | false => simp
theorem before_lt (x : TRoute) : ∀ (l : List TRoute) (i : Nat), i < before x l → plt (l.getD i default).fPrefix x.fPrefix
  | [], i, h => by simp [before] at h
  | y :: t, i, h => by
    unfold before at h
    cases hy : decide (plt y.fPrefix x.fPrefix) with
    | true =>
      rw [hy] at h
      cases i with
      | zero => simpa using hy
      | succ i => simpa using before_lt x t i (by simpa using h)
    | false => rw [hy] at h; simp at h
theorem before_at (x : TRoute) : ∀ (l : List TRoute), before x l < l.length → ¬ plt (l.getD (before x l) default).fPrefix x.fPrefix
  | [], h => by simp at h
  | y :: t, h => by
    unfold before at h ⊢
    cases hy : decide (plt y.fPrefix x.fPrefix) with
    | true =>
      rw [hy] at h
      simpa using before_at x t (by simpa using h)
    | false => simpa using hy
theorem insR_eq (x : TRoute) : ∀ l : List TRoute, insR x l = bif ((before x l : Int) == (l.length : Int)) || !peq (l.getD (before x l) default).fPrefix x.fPrefix then l.take (before x l) ++ [x] ++ l.drop (before x l) else bif S.rib_Less x (l.getD (before x l) default) then l.set (before x l) x else l
  | [] => rfl
  | y :: t => by
    unfold insR before
    cases hy : decide (plt y.fPrefix x.fPrefix) with
    | true =>
      simp only [cond_true]
      rw [insR_eq x t]
      have e1 : (((before x t + 1 : Nat) : Int) == ((y :: t).length : Int)) = ((before x t : Int) == (t.length : Int)) := by
        rw [Bool.eq_iff_iff]; simp only [beq_iff_eq, List.length_cons]; omega
      rw [e1]
      simp only [List.getD_cons_succ, List.take_succ_cons, List.drop_succ_cons, List.set_cons_succ]
      cases ((before x t : Int) == (t.length : Int)) || !peq (t.getD (before x t) default).fPrefix x.fPrefix <;> cases S.rib_Less x (t.getD (before x t) default) <;> simp
    | false =>
      simp only [cond_false]
      have e1 : (((0 : Nat) : Int) == ((y :: t).length : Int)) = false := by rw [beq_eq_false_iff_ne]; simp only [List.length_cons]; omega
      rw [e1]
      simp only [List.getD_cons_zero, List.take_zero, List.drop_zero, List.set_cons_zero, Bool.false_or]
      cases peq y.fPrefix x.fPrefix <;> simp
theorem insR_mem {x t : TRoute} : ∀ {l : List TRoute}, t ∈ insR x l → t = x ∨ t ∈ l
  | [], h => by simp [insR] at h; exact .inl h
  | y :: r, h => by
    unfold insR at h
    cases hy : decide (plt y.fPrefix x.fPrefix) with
    | true =>
      rw [hy] at h
      rcases List.mem_cons.1 h with rfl | h
      · exact .inr List.mem_cons_self
      · rcases insR_mem h with h | h
        · exact .inl h
        · exact .inr (List.mem_cons_of_mem _ h)
    | false =>
      rw [hy] at h
      simp only [cond_false] at h
      cases hp : peq y.fPrefix x.fPrefix with
      | false =>
        rw [hp] at h
        exact List.mem_cons.1 h
      | true =>
        rw [hp] at h
        simp only [cond_true] at h
        cases hl : S.rib_Less x y with
        | true =>
          rw [hl] at h
          rcases List.mem_cons.1 h with h | h
          · exact .inl h
          · exact .inr (List.mem_cons_of_mem _ h)
        | false => rw [hl] at h; exact .inr h
theorem insR_len (x : TRoute) : ∀ l : List TRoute, (insR x l).length ≤ l.length + 1
  | [] => by simp [insR]
  | y :: t => by
    unfold insR
    have := insR_len x t
    cases decide (plt y.fPrefix x.fPrefix) <;> cases peq y.fPrefix x.fPrefix <;> cases S.rib_Less x y <;> simp <;> omega
theorem insR_ok {x : TRoute} : ∀ {l : List TRoute}, Asc l → Asc (insR x l) ∧ ∀ p, lk p (insR x l) = bif peq x.fPrefix p then pickS S.rib_Less (lk p l) x else lk p l
  | [], _ => ⟨by simp [insR, Asc], fun p => lk_one p x⟩
  | y :: t, ha => by
    have ha' := ha
    unfold Asc at ha'
    rw [List.pairwise_cons] at ha'
    have cons1 : ∀ (z : TRoute) (r : List TRoute) (p : TPrefix), lk p (z :: r) = bif peq z.fPrefix p then some z else lk p r := fun z r p => by
      unfold lk
      cases hz : peq z.fPrefix p <;> simp [List.find?_cons, hz]
    unfold insR
    cases hy : decide (plt y.fPrefix x.fPrefix) with
    | true =>
      rw [decide_eq_true_eq] at hy
      obtain ⟨i1, i2⟩ := insR_ok (x := x) (l := t) ha'.2
      refine ⟨?_, fun p => ?_⟩
      · simp only [cond_true]
        unfold Asc
        rw [List.pairwise_cons]
        refine ⟨fun z hz => ?_, i1⟩
        rcases insR_mem hz with rfl | hz
        · exact hy
        · exact ha'.1 z hz
      · simp only [cond_true]
        rw [cons1, cons1, i2]
        cases hq : peq y.fPrefix p with
        | false => rfl
        | true =>
          rw [peq_iff] at hq
          have : peq x.fPrefix p = false := by rw [peq_not, ← hq]; exact (plt_ne hy).symm
          rw [this]; rfl
    | false =>
      simp only [cond_false]
      cases hp : peq y.fPrefix x.fPrefix with
      | false =>
        have hxy : plt x.fPrefix y.fPrefix := by
          rcases plt_tri x.fPrefix y.fPrefix with g | g | g
          · exact g
          · exact absurd g.symm (peq_not.1 hp)
          · simp [g] at hy
        simp only [cond_false]
        refine ⟨?_, fun p => ?_⟩
        · unfold Asc
          rw [List.pairwise_cons]
          refine ⟨fun z hz => ?_, ha⟩
          rcases List.mem_cons.1 hz with rfl | hz
          · exact hxy
          · exact plt_tr hxy (ha'.1 z hz)
        · rw [cons1]
          cases hq : peq x.fPrefix p with
          | false => rfl
          | true =>
            rw [peq_iff] at hq
            subst hq
            rw [lk_none fun z hz => ?_]
            · rfl
            · rcases List.mem_cons.1 hz with rfl | hz
              · exact (plt_ne hxy).symm
              · exact (plt_ne (plt_tr hxy (ha'.1 z hz))).symm
      | true =>
        rw [peq_iff] at hp
        simp only [cond_true]
        cases hl : S.rib_Less x y with
        | true =>
          simp only [cond_true]
          refine ⟨?_, fun p => ?_⟩
          · unfold Asc
            rw [List.pairwise_cons, ← hp]
            exact ha'
          · rw [cons1, cons1, hp]
            cases hq : peq x.fPrefix p with
            | false => rfl
            | true => simp [pickS, hl]
        | false =>
          simp only [cond_false]
          refine ⟨ha, fun p => ?_⟩
          rw [cons1, hp]
          cases hq : peq x.fPrefix p with
          | false => rfl
          | true => simp [pickS, hl]
theorem fold_insR : ∀ (l acc : List TRoute), Asc acc → Asc (l.foldl (fun a x => insR x a) acc) ∧ ∀ p, lk p (l.foldl (fun a x => insR x a) acc) = (l.filter (fun x => peq x.fPrefix p)).foldl (pickS S.rib_Less) (lk p acc)
  | [], acc, h => ⟨h, fun _ => rfl⟩
  | x :: l, acc, h => by
    obtain ⟨h1, h2⟩ := insR_ok (x := x) h
    obtain ⟨h3, h4⟩ := fold_insR l (insR x acc) h1
    refine ⟨h3, fun p => ?_⟩
    rw [List.foldl_cons, h4, h2]
    cases hq : peq x.fPrefix p with
    | true => rw [List.filter_cons_of_pos (p := fun x : TRoute => peq x.fPrefix p) hq]; rfl
    | false => rw [List.filter_cons_of_neg (p := fun x : TRoute => peq x.fPrefix p) (by simp [hq])]; rfl
theorem refSel_eq (l : List TRoute) : l.foldl (fun a x => insR x a) [] = selF l := by
  obtain ⟨h1, h2⟩ := fold_insR l [] (by simp [Asc])
  obtain ⟨h3, h4⟩ := selF_ok l
  exact asc_ext h1 h3 fun p => (h2 p).trans (h4 p).symm
theorem refCompare_lt (p q : TPrefix) : decide (S.ref4_Compare p q < 0) = decide (plt p q) := by
  have hi := refCompare_iff p q
  apply decide_eq_decide.2
  by_cases h : plt p q
  · exact ⟨fun _ => h, fun _ => Classical.byContradiction fun h2 => hi.1 (by omega) h⟩
  · exact ⟨fun h2 => by have := hi.2 h; omega, fun h2 => absurd h2 h⟩
theorem ref_l2 {l acc : List TRoute} {i : Nat} (hi : i < l.length) (ha : acc.length ≤ 1000) : ∀ (k j : Nat), j + k = before (l.getD i default) acc → Iter (M.ref20_Select_l2 l (acc, (i : Int))) (j : Int) ((before (l.getD i default) acc : Nat) : Int) := by
  have hble := before_le (l.getD i default) acc
  intro k
  induction k with
  | zero =>
    intro j h
    obtain rfl : j = before (l.getD i default) acc := by omega
    refine .out ?_
    unfold M.ref20_Select_l2
    simp only [Int.toNat_natCast, Nat.zero_add]
    by_cases hl : before (l.getD i default) acc < acc.length
    · rw [decide_eq_true (show (((before (l.getD i default) acc : Nat) : Int)) < (acc.length : Int) by omega)]
      simp only [gc, guardB, cond_true, s_ref4_Compare, Option.bind_some, Bool.true_and]
      rw [gdT (by simp; omega), refCompare_lt, decide_eq_false (before_at _ _ hl)]
      rfl
    · rw [decide_eq_false (show ¬ (((before (l.getD i default) acc : Nat) : Int)) < (acc.length : Int) by omega)]
      simp only [gc, guardB, cond_false, Option.bind_some, Bool.false_and]
      rw [gdT (by simp)]
  | succ k ih =>
    intro j h
    refine .next ?_ (ih (j + 1) (by omega))
    have hup : wr .i64 ((j : Int) + 1) = ((j + 1 : Nat) : Int) := by rw [wrN (by omega) (by omega)]; omega
    unfold M.ref20_Select_l2
    simp only [Int.toNat_natCast, Nat.zero_add, hup]
    rw [decide_eq_true (show ((j : Int)) < (acc.length : Int) by omega)]
    simp only [gc, guardB, cond_true, s_ref4_Compare, Option.bind_some, Bool.true_and]
    rw [gdT (by simp; omega), refCompare_lt, decide_eq_true (before_lt _ _ j (by omega))]
    rfl
theorem ref_step {l acc : List TRoute} {i : Nat} (hi : i < l.length) (hl : l.length ≤ 1000) (ha : acc.length ≤ i) (hw : ∀ x ∈ l, W_TRoute x ∧ S.ref15_Valid x = true) (hA : ∀ x ∈ acc, W_TRoute x ∧ S.ref15_Valid x = true) :
    M.ref20_Select_l1 l (acc, (i : Int)) = some (.inl (insR (l.getD i default) acc, ((i + 1 : Nat) : Int))) := by
  have hble := before_le (l.getD i default) acc
  have hup : wr .i64 ((i : Int) + 1) = ((i + 1 : Nat) : Int) := by rw [wrN (by omega) (by omega)]; omega
  have hx := hw _ (getD_mem hi)
  unfold M.ref20_Select_l1 M.ref20_Select_k1
  simp only [hup]
  have h2 := ref_l2 (l := l) (acc := acc) hi (by omega) (before (l.getD i default) acc) 0 (by omega)
  rw [s_then (decide_eq_true (by omega)) rfl, show ((0 : Int)) = ((0 : Nat) : Int) from rfl, loopM_of h2, Option.bind_some, insR_eq]
  simp only [Int.toNat_natCast, Nat.zero_add, Nat.sub_zero, List.drop_zero]
  generalize hk : before (l.getD i default) acc = k at *
  rw [gdT (by
    cases hkl : ((k : Int) == (acc.length : Int)) with
    | true => simp [guardB]
    | false => have : (k : Int) ≠ (acc.length : Int) := by simpa using hkl
               simp [guardB]; omega)]
  show (bif ((k : Int) == (acc.length : Int)) || !peq (acc.getD k default).fPrefix (l.getD i default).fPrefix then _ else _) = _
  cases hc : (((k : Int) == (acc.length : Int)) || !peq (acc.getD k default).fPrefix (l.getD i default).fPrefix) with
  | true =>
    simp only [cond_true]
    rw [gdT (by simp; omega)]
    have e : (acc.drop k).take (acc.length - k) = acc.drop k := List.take_of_length_le (by simp)
    rw [e]
  | false =>
    simp only [cond_false]
    simp only [Bool.or_eq_false_iff] at hc
    have hk2 : k < acc.length := by have : (k : Int) ≠ (acc.length : Int) := by simpa using hc.1
                                    omega
    have hy := hA _ (getD_mem hk2)
    rw [s_ref20_Less _ _ (LofW_TRoute hx.1) (LofW_TRoute hy.1), Option.bind_some, gdT (by simp; omega), q_Less2 hx.1 hy.1 hx.2 hy.2]
    cases S.rib_Less (l.getD i default) (acc.getD k default) with
    | true => simp only [cond_true]; rw [gdT (by simp; omega)]
    | false => rfl
theorem refS_loop {l : List TRoute} (hl : l.length ≤ 1000) (hw : ∀ x ∈ l, W_TRoute x ∧ S.ref15_Valid x = true) : ∀ (k i : Nat) (acc : List TRoute), i + k = l.length → acc.length ≤ i → (∀ x ∈ acc, W_TRoute x ∧ S.ref15_Valid x = true) → Iter (M.ref20_Select_l1 l) (acc, (i : Int)) ((l.drop i).foldl (fun a x => insR x a) acc) := by
  intro k
  induction k with
  | zero =>
    intro i acc h1 h2 h3
    rw [List.drop_eq_nil_of_le (by omega)]
    refine .out ?_
    unfold M.ref20_Select_l1
    exact s_else (decide_eq_false (by simp; omega)) rfl
  | succ k ih =>
    intro i acc h1 h2 h3
    have hi : i < l.length := by omega
    have hd : l.drop i = l.getD i default :: l.drop (i + 1) := by rw [List.drop_eq_getElem_cons hi]; simp [hi]
    rw [hd, List.foldl_cons]
    refine .next (ref_step hi hl h2 hw h3) (ih (i + 1) _ (by omega) (by have := insR_len (l.getD i default) acc; omega) fun x hx => ?_)
    rcases insR_mem hx with rfl | h
    · exact hw _ (getD_mem hi)
    · exact h3 x h
theorem ref_Select_eq {l : List TRoute} (hl : l.length ≤ 1000) (hw : ∀ x ∈ l, W_TRoute x ∧ S.ref15_Valid x = true) : M.ref20_Select l = some (selF l) := by
  have h := refS_loop hl hw l.length 0 [] (Nat.zero_add _) (Nat.zero_le _) (fun x hx => by cases hx)
  rw [List.drop_zero, refSel_eq] at h
  unfold M.ref20_Select
  rw [show ((0 : Int)) = ((0 : Nat) : Int) from rfl, loopM_of h, Option.bind_some]
theorem less_loop {l : List TRoute} (hl : l.length ≤ 1000) (hw : ∀ x ∈ l, W_TRoute x ∧ S.ref15_Valid x = true) : ∀ (k i : Nat), i + k = l.length → 0 < i → Iter (M.law19_RibSelects_l1 l) (i : Int) (.inl ()) := by
  intro k
  induction k with
  | zero =>
    intro i h1 h2
    refine .out ?_
    unfold M.law19_RibSelects_l1
    exact s_else (decide_eq_false (by omega)) rfl
  | succ k ih =>
    intro i h1 h2
    have hup : wr .i64 ((i : Int) + 1) = ((i + 1 : Nat) : Int) := by rw [wrN (by omega) (by omega)]; omega
    have hdn : wr .i64 ((i : Int) - 1) = ((i - 1 : Nat) : Int) := by rw [wrN (by omega) (by omega)]; omega
    have ha := hw _ (getD_mem (l := l) (i := i - 1) (by omega))
    have hb := hw _ (getD_mem (l := l) (i := i) (by omega))
    refine .next ?_ (ih (i + 1) (by omega) (by omega))
    unfold M.law19_RibSelects_l1
    simp only [hup, hdn, Int.toNat_natCast]
    rw [s_then (decide_eq_true (by omega)) rfl, s_rib_Less _ _ (LofW_TRoute ha.1) (LofW_TRoute hb.1), Option.bind_some, s_ref20_Less _ _ (LofW_TRoute ha.1) (LofW_TRoute hb.1), Option.bind_some, gdT (by simp; omega), q_Less2 ha.1 hb.1 ha.2 hb.2]
    simp
theorem plain_RibSelects (a0 : List TRoute) (w0 : a0.length ≤ maxLen ∧ a0.length * 136 ≤ reachBytes ∧ ∀ y ∈ a0, W_TRoute y) : M.law19_RibSelects a0 = some true := by
  have hL : LL L_TRoute a0 := ⟨w0.1, fun x hx => LofW_TRoute (w0.2.2 x hx)⟩
  unfold M.law19_RibSelects
  rw [s_law19_few a0 hL, Option.bind_some]
  cases hf : S.law19_few a0 with
  | false => rfl
  | true =>
    obtain ⟨h30, hv⟩ := few_all hf
    have hC : ∀ x ∈ a0, Cp x := fun x hx => by
      have w := w0.2.2 x hx
      have e : reachBytes = 140737488351232 := rfl
      have p := w.2.2.2.2.2.2.2.2.1.2.1
      have q := w.2.2.2.2.2.2.2.2.2.2.2.1.2.1
      exact ⟨by omega, by omega⟩
    have hlen := selF_len a0
    have hL2 : LL L_TRoute (selF a0) := ⟨by have := w0.1; omega, fun x hx => hL.2 x (selF_mem hx)⟩
    have hw : ∀ x ∈ a0, W_TRoute x ∧ S.ref15_Valid x = true := fun x hx => ⟨w0.2.2 x hx, hv x hx⟩
    simp only [Bool.not_true, cond_false]
    have hloop : loopM (M.law19_RibSelects_l1 a0) 1 = some (.inl ()) := by
      rcases Nat.lt_or_ge 0 a0.length with h | h
      · exact loopM_of (less_loop (by omega) hw (a0.length - 1) 1 (by omega) (by omega))
      · refine loopM_of (.out ?_)
        unfold M.law19_RibSelects_l1
        exact s_else (decide_eq_false (by omega)) rfl
    rw [hloop, Option.bind_some]
    simp only [Sum.elim_inl]
    rw [rib_Select_eq (by omega) hL.2 hC, Option.bind_some, ref_Select_eq (by omega) hw, Option.bind_some, s_ref15_SameAll _ _ hL2 hL2, sameAll_rfl, Option.bind_some]
    simp only [gc, cond_true]
    rw [s_law19_sane]
    rfl
end Nv
