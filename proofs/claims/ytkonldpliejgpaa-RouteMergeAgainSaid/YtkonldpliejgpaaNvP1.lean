/- The plain law of RouteMergeAgain: merging merged tables changes nothing. -/
import Derived.Test.YtkonldpliejgpaaNvG6
import Derived.Test.YtkonldpliejgpaaNvG7
import Derived.Test.YtkonldpliejgpaaNvR3
import Derived.Test.YtkonldpliejgpaaNvR5
import Derived.Test.YtkonldpliejgpaaNvLW
import Derived.Test.YtkonldpliejgpaaNvS1
set_option maxRecDepth 100000
namespace Nv
open Go
theorem runN_none {β : Type} {g : Nat → Option β} {e : β} {n : Nat} (h : ∀ j, j < n → g j = none) : runN g e 0 n = e := by
  rcases runN_cases g e n 0 with ⟨j, _, h2, h3, _⟩ | ⟨h1, _⟩
  · rw [h j (by omega)] at h3; cases h3
  · exact h1
theorem same_rfl (x : TRoute) : S.ref15_Same x x = true := by
  unfold S.ref15_Same
  simp only [letS, beq_self_eq_true, bne_self_eq_false, Bool.and_true, Bool.not_true, Bool.or_false, Bool.false_or, cond_false]
  rw [runN_none (g := S.ref15_Same_l1 x x) (fun j _ => by unfold S.ref15_Same_l1; simp)]
  simp only [Sum.elim_inl]
  rw [runN_none (g := S.ref15_Same_l2 x x) (fun j _ => by unfold S.ref15_Same_l2; simp)]
  rfl
theorem sameAll_rfl (l : List TRoute) : S.ref15_SameAll l l = true := by
  unfold S.ref15_SameAll
  simp only [letS, bne_self_eq_false, cond_false]
  rw [runN_none (g := S.ref15_SameAll_l1 l l) (fun j _ => by unfold S.ref15_SameAll_l1; simp only [letS, same_rfl]; rfl)]
  rfl
theorem eqInt_rfl (l : List Int) : S.slices_Equal_int_int l l = true := by
  unfold S.slices_Equal_int_int
  simp only [letS, bne_self_eq_false, cond_false]
  rw [runN_none (g := S.slices_Equal_int_int_l1 l l) (fun j _ => by unfold S.slices_Equal_int_int_l1; simp)]
  rfl
theorem eqHop_rfl (l : List THop) : S.slices_Equal_api_Hop_api_Hop l l = true := by
  unfold S.slices_Equal_api_Hop_api_Hop
  simp only [letS, bne_self_eq_false, cond_false]
  rw [runN_none (g := S.slices_Equal_api_Hop_api_Hop_l1 l l) (fun j _ => by unfold S.slices_Equal_api_Hop_api_Hop_l1; simp)]
  rfl
theorem psame_rfl (x : TRoute) : S.route_Same x x = true := by
  unfold S.route_Same
  simp [letS, eqInt_rfl, eqHop_rfl]
theorem psameAll_rfl (l : List TRoute) : S.route_SameAll l l = true := by
  unfold S.route_SameAll S.slices_EqualFunc_api_Route_api_Route_api_Route_api_Route__route_Same
  simp only [letS, bne_self_eq_false, cond_false]
  rw [runN_none (g := S.slices_EqualFunc_api_Route_api_Route_api_Route_api_Route__route_Same_l1 l l) (fun j _ => by unfold S.slices_EqualFunc_api_Route_api_Route_api_Route_api_Route__route_Same_l1; simp only [letS, psame_rfl]; rfl)]
  rfl
theorem mer_all {l : List TRoute} {t : TRoute} (h : t ∈ mer l) : ∃ g, g ≠ [] ∧ (∀ x ∈ g, x ∈ l) ∧ g.length ≤ l.length ∧ t = mo g := by
  obtain ⟨h1, _, h3⟩ := mer_ok l
  have e := lk_mem h1 h
  rw [h3] at e
  split at e
  · cases e
  · rename_i hne
    exact ⟨_, hne, fun x hx => (List.mem_filter.1 hx).1, List.length_filter_le _ _, (Option.some.inj e).symm⟩
theorem few_len {l : List TRoute} (h : S.law14_few l = true) : l.length ≤ 40 ∧ ∀ x ∈ l, x.fPath.length ≤ 68 ∧ x.fHops.length ≤ 20 := by
  unfold S.law14_few at h
  simp only [letS] at h
  rw [show runN (S.law14_few_l1 l) (.inl () : Unit ⊕ Bool) 0 l.length = bif anyN (fun i => decide (((l.getD i default).fPath.length : Int) > 68) || decide (((l.getD i default).fHops.length : Int) > 20)) l.length then .inr false else .inl () from runN_any _ _ _ _] at h
  cases h1 : decide ((l.length : Int) > 40) with
  | true => rw [h1] at h; cases h
  | false =>
    rw [h1] at h
    cases h2 : anyN (fun i => decide (((l.getD i default).fPath.length : Int) > 68) || decide (((l.getD i default).fHops.length : Int) > 20)) l.length with
    | true => rw [h2] at h; cases h
    | false =>
      rw [decide_eq_false_iff_not] at h1
      refine ⟨by omega, fun x hx => ?_⟩
      obtain ⟨i, hi, rfl⟩ := List.getElem_of_mem hx
      have h3 := anyN_false.1 h2 i hi
      simp only [Bool.or_eq_false_iff, decide_eq_false_iff_not] at h3
      simp [hi] at h3
      omega
theorem one_all {l : List TRoute} (h : S.law14_One l = true) (i : Nat) (hi : i < l.length) : S.ref15_Valid (l.getD i default) = true ∧ (l.getD i default).fProto = (l.getD 0 default).fProto := by
  unfold S.law14_One at h
  simp only [letS] at h
  cases hf : S.law14_few l with
  | false => rw [hf] at h; simp at h
  | true =>
    rw [hf] at h
    simp only [Bool.not_true, cond_false] at h
    rcases runN_cases (S.law14_One_l1 l) (.inl ()) l.length 0 with ⟨j, _, _, h1, _⟩ | ⟨_, h2⟩
    · generalize runN (S.law14_One_l1 l) (.inl ()) 0 l.length = y at h h1
      unfold S.law14_One_l1 at h1
      simp only [letS] at h1
      obtain ⟨_, rfl⟩ := cond_some h1
      simp at h
    · have h3 := h2 i (Nat.zero_le _) (by omega)
      unfold S.law14_One_l1 at h3
      simp only [letS] at h3
      have h4 := cond_none h3
      simp only [Bool.or_eq_false_iff, Bool.not_eq_false', bne_eq_false_iff_eq] at h4
      exact ⟨h4.1, h4.2⟩
theorem one_few {l : List TRoute} (h : S.law14_One l = true) : S.law14_few l = true := by
  unfold S.law14_One at h
  simp only [letS] at h
  cases hf : S.law14_few l with
  | false => rw [hf] at h; simp at h
  | true => rfl
theorem pref_eq {a b : TRoute} (wa : W_TRoute a) (wb : W_TRoute b) (va : S.ref15_Valid a = true) (vb : S.ref15_Valid b = true) (h2 : a.fProto = b.fProto) : S.ref15_Prefer a b = S.route_Prefer a b := by
  have f0 : wr .i64 a.fFrom = a.fFrom := wr_i64 (u32_in wa.2.2.2.2.2.2.2.2.2.1)
  have f1 : wr .i64 b.fFrom = b.fFrom := wr_i64 (u32_in wb.2.2.2.2.2.2.2.2.2.1)
  have e := cmp_rank h2 (fun h => wr_i64 (by have := valid_pref va h; omega)) (fun h => wr_i64 (by have := valid_pref vb (by rw [← h2]; exact h); omega)) f0 f1 (valid_proto va)
  rw [q_ref, e, q_Prefer h2]
theorem q_Compare (a b : TPrefix) : decide (S.addr_Compare a b ≥ 0) = decide (S.ref4_Compare a b ≥ 0) := by
  unfold S.addr_Compare S.ref4_Compare
  simp only [letS, q_cmp, q_cmp32]
  unfold cmpI
  rcases Int.lt_trichotomy a.fAddr b.fAddr with h | h | h
  · simp [h]
  · rw [h]
    rcases Int.lt_trichotomy a.fLen b.fLen with g | g | g
    · simp [g]
    · simp [g]
    · have g1 : ¬ a.fLen < b.fLen := by omega
      have g2 : (a.fLen == b.fLen) = false := by simp; omega
      simp [g, g1, g2]
  · have h1 : ¬ a.fAddr < b.fAddr := by omega
    have h2 : (a.fAddr == b.fAddr) = false := by simp; omega
    simp [h, h1, h2]
theorem q_Table (l : List TRoute) (p : Int) : S.route_Table l p = S.ref15_Table l p := by
  unfold S.route_Table S.ref15_Table
  simp only [letS]
  rw [show runN (S.route_Table_l1 l p) (.inl () : Unit ⊕ Bool) 0 l.length = runN (S.ref15_Table_l1 l p) (.inl ()) 0 l.length from runN_congr0 fun j _ => ?_]
  unfold S.route_Table_l1 S.ref15_Table_l1
  simp only [letS, q_Valid]
  cases S.ref15_Valid (l.getD j default) <;> cases ((p != 0) && ((l.getD j default).fProto != p)) <;> cases h2 : decide ((j : Int) > 0) <;> simp [q_Compare]
theorem table_proto {l : List TRoute} {p : Int} (h : S.ref15_Table l 0 = true) (hp : ∀ x ∈ l, x.fProto = p) : S.ref15_Table l p = true := by
  rw [← h]
  unfold S.ref15_Table
  simp only [letS]
  rw [show runN (S.ref15_Table_l1 l p) (.inl () : Unit ⊕ Bool) 0 l.length = runN (S.ref15_Table_l1 l 0) (.inl ()) 0 l.length from runN_congr0 fun j hj => ?_]
  unfold S.ref15_Table_l1
  simp only [letS, hp _ (rget_mem (show j < l.length by omega)), bne_self_eq_false, Bool.and_false, Bool.false_and]
theorem hopsOf_len2 {b : TRoute} : ∀ {g : List TRoute}, (∀ x ∈ g, x.fHops.length ≤ 20) → (hopsOf b g).length ≤ g.length * 20
  | [], _ => by simp [hopsOf]
  | x :: g, h => by
    have h1 := hopsOf_len2 (b := b) (g := g) fun y hy => h y (List.mem_cons_of_mem _ hy)
    have h2 := h x List.mem_cons_self
    unfold hopsOf at h1 ⊢
    rw [List.length_cons]
    cases hc : S.route_Prefer x b == 0 with
    | true => rw [List.filter_cons_of_pos (p := fun x => S.route_Prefer x b == 0) hc, List.flatMap_cons, List.length_append]; omega
    | false => rw [List.filter_cons_of_neg (p := fun x => S.route_Prefer x b == 0) (by rw [hc]; exact Bool.false_ne_true)]; omega
theorem mer_LL {l : List TRoute} (hl : l.length ≤ 40) (hs : ∀ x ∈ l, x.fPath.length ≤ 68 ∧ x.fHops.length ≤ 20) : LL L_TRoute (mer l) ∧ (mer l).length ≤ l.length ∧ ∀ t ∈ mer l, t.fPath.length ≤ 68 ∧ t.fHops.length ≤ 800 := by
  have e : maxLen = 9223372036854775807 := rfl
  have hn : (mer l).length ≤ l.length := by
    have h1 := mg_len _ (ssort (ltc prc) l) (Nat.le_refl _)
    rw [len_ssort] at h1
    exact h1
  have ht : ∀ t ∈ mer l, t.fPath.length ≤ 68 ∧ t.fHops.length ≤ 800 := fun t ht => by
    obtain ⟨g, hg, h1, h2, rfl⟩ := mer_all ht
    refine ⟨(hs _ (h1 _ (bestOf_mem hg))).1, ?_⟩
    have h3 := ddp_len (sortP hcf (hopsOf (bestOf g) g))
    have h4 := (sortP_ok hcf_swo (hopsOf (bestOf g) g)).1
    have h5 := hopsOf_len2 (b := bestOf g) (fun x hx => (hs x (h1 x hx)).2)
    show (hset (hopsOf (bestOf g) g)).length ≤ _
    unfold hset
    omega
  exact ⟨⟨by omega, fun t h => ⟨by have := (ht t h).1; omega, by have := (ht t h).2; omega⟩⟩, hn, ht⟩
theorem mer_proto {l : List TRoute} {p : Int} (hp : ∀ x ∈ l, x.fProto = p) : ∀ t ∈ mer l, t.fProto = p := fun t ht => by
  obtain ⟨g, hg, h1, _, rfl⟩ := mer_all ht
  exact mo_proto hg fun x hx => hp x (h1 x hx)
theorem plain_RouteMergeAgain (a0 : List TRoute) (a1 : Int) (w0 : a0.length ≤ maxLen ∧ a0.length * 136 ≤ reachBytes ∧ ∀ y ∈ a0, W_TRoute y) (_w1 : (Lit.int .i64 a1).wf = true) : M.law14_RouteMergeAgain a0 a1 = some true := by
  have hL : LL L_TRoute a0 := ⟨w0.1, fun x hx => LofW_TRoute (w0.2.2 x hx)⟩
  unfold M.law14_RouteMergeAgain
  rw [s_law14_One a0 hL, Option.bind_some]
  cases hc : (((!S.law14_One a0) || ((a0.length : Int) == 0)) || (decide (a1 < 0))) || (decide (a1 > (a0.length : Int))) with
  | true => rfl
  | false =>
    simp only [Bool.or_eq_false_iff, Bool.not_eq_false', decide_eq_false_iff_not, beq_eq_false_iff_ne, ne_eq] at hc
    obtain ⟨⟨⟨hf, hn0⟩, hk0⟩, hk1⟩ := hc
    obtain ⟨k, rfl⟩ : ∃ k : Nat, a1 = (k : Int) := ⟨a1.toNat, by omega⟩
    obtain ⟨h40, hs⟩ := few_len (one_few hf)
    have hv : ∀ x ∈ a0, S.ref15_Valid x = true ∧ x.fProto = (a0.getD 0 default).fProto := fun x hx => by
      obtain ⟨i, hi, rfl⟩ := List.getElem_of_mem hx
      have := one_all hf i hi
      simpa [hi] using this
    have hE : ∀ x ∈ a0, ∀ y ∈ a0, S.ref15_Prefer x y = S.route_Prefer x y := fun x hx y hy => pref_eq (w0.2.2 x hx) (w0.2.2 y hy) (hv x hx).1 (hv y hy).1 ((hv x hx).2.trans (hv y hy).2.symm)
    have hP : ∀ x ∈ a0, x.fProto = (a0.getD 0 default).fProto := fun x hx => (hv x hx).2
    have sub : ∀ {b : List TRoute}, (∀ x ∈ b, x ∈ a0) → b.length ≤ a0.length → M.route_Merge b = some (mer b) ∧ M.ref15_Merge b = some (mer b) ∧ LL L_TRoute (mer b) ∧ (mer b).length ≤ b.length ∧ ∀ t ∈ mer b, t.fPath.length ≤ 68 ∧ t.fHops.length ≤ 800 := fun {b} hb hl => by
      have hsb : ∀ x ∈ b, x.fPath.length ≤ 68 ∧ x.fHops.length ≤ 20 := fun x hx => hs x (hb x hx)
      obtain ⟨m1, m2, m3⟩ := mer_LL (l := b) (by omega) hsb
      exact ⟨merge_eq (by omega) (fun x hx => hL.2 x (hb x hx)) (fun x hx => by have := (hsb x hx).2; omega) (fun x hx => by have := (hsb x hx).1; omega),
        rmerge_eq (by omega) (fun x hx => hL.2 x (hb x hx)) (fun x hx => by have := (hsb x hx).2; omega) (fun x hx => by have := (hsb x hx).1; omega) (fun x hx y hy => hE x (hb x hx) y (hb y hy)), m1, m2, m3⟩
    have hA : (a0.drop 0).take (((k : Nat) : Int).toNat - 0) = a0.take k := by simp
    have hB : (a0.drop ((k : Nat) : Int).toNat).take (a0.length - ((k : Nat) : Int).toNat) = a0.drop k := by
      rw [Int.toNat_natCast]; exact List.take_of_length_le (by rw [List.length_drop]; exact Nat.le_refl _)
    have iA : ∀ x ∈ a0.take k, x ∈ a0 := fun x hx => List.mem_of_mem_take hx
    have iB : ∀ x ∈ a0.drop k, x ∈ a0 := fun x hx => List.mem_of_mem_drop hx
    have nA : (a0.take k).length ≤ a0.length := by rw [List.length_take]; omega
    have nB : (a0.drop k).length ≤ a0.length := by rw [List.length_drop]; omega
    have nAB : (a0.take k).length + (a0.drop k).length = a0.length := by rw [← List.length_append, List.take_append_drop]
    obtain ⟨p1, q1, l1, n1, s1⟩ := sub (b := a0) (fun x hx => hx) (Nat.le_refl _)
    obtain ⟨p2, q2, l2, n2, s2⟩ := sub iA nA
    obtain ⟨p3, q3, l3, n3, s3⟩ := sub iB nB
    rw [hA, hB, q1, q2, q3, p1, p2, p3]
    simp only [cond_false, Option.bind_some]
    rw [s_ref15_Table _ _ l1, Option.bind_some]
    cases t1 : S.ref15_Table (mer a0) 0 with
    | false => simp [gc, gd, guardB]
    | true =>
      simp only [gc, Bool.not_true, Bool.not_false, cond_true, Option.bind_some, Bool.false_or]
      rw [s_ref15_Table _ _ l2, Option.bind_some]
      cases t2 : S.ref15_Table (mer (a0.take k)) 0 with
      | false => simp [gd, guardB]; rw [decide_eq_true (show k ≤ a0.length by omega)]; rfl
      | true =>
        simp only [Bool.not_true, Bool.not_false, cond_true, Option.bind_some, Bool.false_or]
        rw [s_ref15_Table _ _ l3, Option.bind_some]
        rw [gdT (by simp [guardB]; omega)]
        cases t3 : S.ref15_Table (mer (a0.drop k)) 0 with
        | false => rfl
        | true =>
          have hPm := mer_proto hP
          have e4 : M.route_Merge (mer a0) = some (mer a0) := by
            rw [merge_eq (by omega) l1.2 (fun x hx => by have := (s1 x hx).2; omega) (fun x hx => by have := (s1 x hx).1; omega), mer_mer hP]
          have e5 : M.route_Merge (mer (a0.take k) ++ mer (a0.drop k)) = some (mer a0) := by
            have hx : ∀ x ∈ mer (a0.take k) ++ mer (a0.drop k), L_TRoute x ∧ x.fPath.length ≤ 68 ∧ x.fHops.length ≤ 800 := fun x hx => by
              rcases List.mem_append.1 hx with h | h
              · exact ⟨l2.2 x h, s2 x h⟩
              · exact ⟨l3.2 x h, s3 x h⟩
            rw [merge_eq (by rw [List.length_append]; omega) (fun x h => (hx x h).1) (fun x h => by have := (hx x h).2.2; omega) (fun x h => by have := (hx x h).2.1; omega),
              mer_app (fun x h => hP x (iA x h)) (fun x h => hP x (iB x h)), List.take_append_drop]
          simp only [Bool.not_true, cond_false]
          rw [s_route_Table _ _ l1, Option.bind_some, q_Table, show (0 : Int).toNat = 0 from rfl, table_proto t1 hPm]
          simp only [Bool.not_true, Bool.not_false, cond_true]
          rw [e4, Option.bind_some, s_route_SameAll _ _ l1 l1, psameAll_rfl, Option.bind_some, gdT (by simp; omega)]
          simp only [Bool.not_true, Bool.or_false, cond_false]
          rw [gdT (by simp; omega), e5, Option.bind_some, s_ref15_SameAll _ _ l1 l1, sameAll_rfl, Option.bind_some]
          simp only [cond_true]
          rw [sane_some]
          rfl
end Nv
