/- The plain law of RibBest: the selected routes form a table, each is given, none given of its prefix is selected rather than it. -/
import Derived.Test.YtghjgndlgliieaaNvU2
import Derived.Test.YtghjgndlgliieaaNvR5
namespace Nv
open Go
theorem runN_none {β : Type} {g : Nat → Option β} {e : β} {n : Nat} (h : ∀ j, j < n → g j = none) : runN g e 0 n = e := by
  rcases runN_cases g e n 0 with ⟨j, _, h2, h3, _⟩ | ⟨h1, _⟩
  · rw [h j (by omega)] at h3; cases h3
  · exact h1
theorem getD_mem {l : List TRoute} {i : Nat} (hi : i < l.length) : l.getD i default ∈ l := by rw [List.getD_eq_getElem?_getD, List.getElem?_eq_getElem hi]; exact List.getElem_mem hi
theorem few_all {l : List TRoute} (h : S.law19_few l = true) : l.length ≤ 30 ∧ ∀ x ∈ l, S.ref15_Valid x = true := by
  unfold S.law19_few at h
  by_cases hl : (l.length : Int) > 30
  · rw [decide_eq_true hl] at h; cases h
  · rw [decide_eq_false hl] at h
    simp only [letS, cond_false] at h
    refine ⟨by omega, fun x hx => ?_⟩
    rcases runN_cases (S.law19_few_l1 l) (.inl ()) l.length 0 with ⟨j, _, _, h1, _⟩ | ⟨_, h2⟩
    · generalize runN (S.law19_few_l1 l) (.inl ()) 0 l.length = y at h h1
      unfold S.law19_few_l1 at h1
      simp only [letS] at h1
      obtain ⟨_, rfl⟩ := cond_some h1
      simp at h
    · obtain ⟨i, hi, rfl⟩ := List.getElem_of_mem hx
      have h3 := h2 i (Nat.zero_le _) (by omega)
      unfold S.law19_few_l1 at h3
      simp only [letS] at h3
      have h4 := cond_none h3
      rw [Bool.not_eq_false'] at h4
      simpa [hi] using h4
theorem q_Less2 {a b : TRoute} (wa : W_TRoute a) (wb : W_TRoute b) (va : S.ref15_Valid a = true) (vb : S.ref15_Valid b = true) : S.ref20_Less a b = S.rib_Less a b := by
  rw [q_Less]
  unfold S.ref20_Less rkey
  simp only [letS, cmpL]
  unfold cmpI
  by_cases h1 : a.fAdmin = b.fAdmin
  · by_cases h2 : a.fProto = b.fProto
    · have f0 : wr .i64 a.fFrom = a.fFrom := wr_i64 (u32_in wa.2.2.2.2.2.2.2.2.2.1)
      have f1 : wr .i64 b.fFrom = b.fFrom := wr_i64 (u32_in wb.2.2.2.2.2.2.2.2.2.1)
      have e := cmp_rank h2 (fun h => wr_i64 (by have := valid_pref va h; omega)) (fun h => wr_i64 (by have := valid_pref vb (by rw [← h2]; exact h); omega)) f0 f1 (valid_proto va)
      rw [q_ref, e]
      simp [h1, h2]
    · by_cases h3 : a.fProto < b.fProto
      · simp [h1, h2, h3]
      · have h4 : a.fProto > b.fProto := by omega
        simp [h1, h2, h3, h4]
  · by_cases h3 : a.fAdmin < b.fAdmin
    · simp [h1, h3]
    · have h4 : a.fAdmin > b.fAdmin := by omega
      simp [h1, h3, h4]
theorem same_rfl (x : TRoute) : S.ref15_Same x x = true := by
  unfold S.ref15_Same
  simp only [letS, beq_self_eq_true, bne_self_eq_false, Bool.and_true, Bool.not_true, Bool.or_false, Bool.false_or, cond_false]
  rw [runN_none (g := S.ref15_Same_l1 x x) (fun j _ => by unfold S.ref15_Same_l1; simp)]
  simp only [Sum.elim_inl]
  rw [runN_none (g := S.ref15_Same_l2 x x) (fun j _ => by unfold S.ref15_Same_l2; simp)]
  rfl
theorem table_true {l : List TRoute} (ha : Asc l) (hl : l.length ≤ 30) (hv : ∀ x ∈ l, S.ref15_Valid x = true) : S.ref15_Table l 0 = true := by
  unfold S.ref15_Table
  simp only [letS]
  rw [runN_none fun j hj => ?_]
  · rfl
  · unfold S.ref15_Table_l1
    simp only [letS]
    rw [hv _ (getD_mem hj)]
    by_cases h0 : j = 0
    · subst h0; simp
    · have e : wr .i64 ((j : Int) - 1) = ((j - 1 : Nat) : Int) := by rw [wrN (by omega) (by omega)]; omega
      rw [e, Int.toNat_natCast]
      have hp : plt (l.getD (j - 1) default).fPrefix (l.getD j default).fPrefix := by
        have := List.pairwise_iff_getElem.1 ha (j - 1) j (by omega) hj (by omega)
        simpa [hj, show j - 1 < l.length by omega] using this
      have hc : ¬ S.ref4_Compare (l.getD (j - 1) default).fPrefix (l.getD j default).fPrefix ≥ 0 := by rw [refCompare_iff]; simpa using hp
      have hj0 : (j : Int) > 0 := by omega
      rw [decide_eq_true hj0]
      simp only [Bool.not_true, bne_self_eq_false, Bool.false_and, Bool.false_or, Bool.or_false, Bool.not_false, Bool.true_and, cond_true]
      rw [decide_eq_false hc]
      rfl
theorem find_ge {l : List TRoute} {t : TRoute} (h : t ∈ l) : ¬ S.ref15_Find l t.fPrefix < 0 := by
  unfold S.ref15_Find
  simp only [letS]
  obtain ⟨i, hi, rfl⟩ := List.getElem_of_mem h
  rcases runN_cases (S.ref15_Find_l1 l l[i].fPrefix) (.inl ()) l.length 0 with ⟨j, _, _, h1, _⟩ | ⟨_, h2⟩
  · generalize runN (S.ref15_Find_l1 l l[i].fPrefix) (.inl ()) 0 l.length = y at h1
    unfold S.ref15_Find_l1 at h1
    obtain ⟨_, rfl⟩ := cond_some h1
    simp
  · have h3 := h2 i (Nat.zero_le _) (by omega)
    unfold S.ref15_Find_l1 at h3
    have h4 := cond_none h3
    simp [hi] at h4
theorem best_l2 {l r : List TRoute} {i : Nat} (hno : ∀ x ∈ l, x.fPrefix = (r.getD i default).fPrefix → S.ref20_Less x (r.getD i default) = false) :
    ∀ (k j : Nat) (b : Bool), j + k = l.length → (b = true ∨ ∃ q, j ≤ q ∧ q < l.length ∧ l.getD q default = r.getD i default) → runT (S.law19_RibBest_l2 l r i) (fun s6 => .inl s6) j k b = .inl true := by
  intro k
  induction k with
  | zero =>
    intro j b h1 h2
    rcases h2 with rfl | ⟨q, h3, h4, _⟩
    · rfl
    · omega
  | succ k ih =>
    intro j b h1 h2
    unfold runT
    have hj : j < l.length := by omega
    have e : S.law19_RibBest_l2 l r i j b = .inl (b || bif !b then S.ref15_Same (l.getD j default) (r.getD i default) else default) := by
      unfold S.law19_RibBest_l2
      simp only [letS]
      cases hp : (((((l.getD j default).fPrefix).fAddr) == (((r.getD i default).fPrefix).fAddr)) && (((((l.getD j default).fPrefix).fLen) == (((r.getD i default).fPrefix).fLen)) && true)) with
      | false => rfl
      | true => rw [hno _ (getD_mem hj) (peq_iff.1 hp)]; rfl
    rw [e]
    refine ih (j + 1) _ (by omega) ?_
    rcases h2 with rfl | ⟨q, h3, h4, h5⟩
    · exact .inl rfl
    · by_cases hq : q = j
      · subst hq
        left
        rw [h5, same_rfl]
        cases b <;> rfl
      · exact .inr ⟨q, by omega, h4, h5⟩
theorem plain_RibBest (a0 : List TRoute) (w0 : a0.length ≤ maxLen ∧ a0.length * 136 ≤ reachBytes ∧ ∀ y ∈ a0, W_TRoute y) : M.law19_RibBest a0 = some true := by
  have hL : LL L_TRoute a0 := ⟨w0.1, fun x hx => LofW_TRoute (w0.2.2 x hx)⟩
  rw [z_law19_RibBest, s_law19_few a0 hL, Option.bind_some]
  cases hf : S.law19_few a0 with
  | false => rfl
  | true =>
    obtain ⟨h30, hv⟩ := few_all hf
    have hC : ∀ x ∈ a0, Cp x := fun x hx => by
      have w := w0.2.2 x hx
      have e : reachBytes = 140737488351232 := rfl
      have p := w.2.2.2.2.2.2.2.2.1.2.1
      have q := w.2.2.2.2.2.2.2.2.2.2.2.1.2.1
      exact ⟨by omega, by omega⟩
    have hlen := selF_len a0
    have hL2 : LL L_TRoute (selF a0) := ⟨by have := w0.1; omega, fun x hx => hL.2 x (selF_mem hx)⟩
    simp only [Bool.not_true, cond_false]
    rw [rib_Select_eq (by omega) hL.2 hC, Option.bind_some, s_law19_RibBest_z a0 _ hL hL2]
    congr 1
    unfold S.law19_RibBest_z
    simp only [letS]
    rw [table_true (selF_ok a0).1 (by omega) (fun x hx => hv x (selF_mem hx))]
    simp only [Bool.not_true, cond_false]
    rw [runN_none (g := S.law19_RibBest_l1 a0 (selF a0)) fun i hi => ?_]
    · simp only [Sum.elim_inl]
      rw [runN_none (g := S.law19_RibBest_l3 a0 (selF a0)) fun i hi => ?_]
      · rfl
      · unfold S.law19_RibBest_l3
        simp only [letS]
        obtain ⟨t, ht, hp⟩ := selF_has (getD_mem hi)
        rw [← hp, decide_eq_false (find_ge ht)]
        rfl
    · unfold S.law19_RibBest_l1
      simp only [letS]
      obtain ⟨hm, hb⟩ := selF_best (getD_mem hi)
      obtain ⟨q, hq, eq⟩ := List.getElem_of_mem hm
      rw [best_l2 (fun x hx hp => by rw [q_Less2 (w0.2.2 x hx) (w0.2.2 _ hm) (hv x hx) (hv _ hm)]; exact hb x hx hp) a0.length 0 false (by omega) (.inr ⟨q, Nat.zero_le _, hq, by simpa [hq] using eq⟩)]
      rfl
end Nv
