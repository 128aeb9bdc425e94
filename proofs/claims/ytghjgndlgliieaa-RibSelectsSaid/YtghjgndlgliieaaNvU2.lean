/- What the selection computes. No condition. -/
import Derived.Test.YtghjgndlgliieaaNvT2
import Derived.Test.YtghjgndlgliieaaNvLW
import Derived.Test.YtghjgndlgliieaaNvU1
namespace Nv
open Go
def rkey (x : TRoute) : List Int := x.fAdmin :: x.fProto :: pkey x
theorem rkey_len (x : TRoute) : (rkey x).length = 8 := by simp [rkey, pkey_len]
theorem q_Less (a b : TRoute) : S.rib_Less a b = decide (cmpL (rkey a) (rkey b) < 0) := by
  unfold S.rib_Less rkey
  simp only [letS, q_cmp, q_or, cmpL, fnz]
  congr 1
  cases h1 : cmpI a.fAdmin b.fAdmin != 0 with
  | true => rfl
  | false =>
    cases h2 : cmpI a.fProto b.fProto != 0 with
    | true => rfl
    | false =>
      have hp := cmpI_zero (x := a.fProto) (y := b.fProto) (by simpa using h2)
      rw [q_Prefer hp]
      simp only [cond_false]
      rw [bif_self _ rfl]
theorem less_sw : SW S.rib_Less where
  irr x := by rw [q_Less, cmpL_self]; rfl
  tr x y z h1 h2 := by
    rw [q_Less, decide_eq_true_eq] at *
    have a1 := cmpL_swap (rkey x) (rkey z)
    have a2 := cmpL_swap (rkey y) (rkey z)
    have t1 := cmpL_trans (rkey x) (rkey y) (rkey z) (by simp [rkey_len]) (by simp [rkey_len]) (by omega) (by omega)
    have t2 := cmpL_trans (rkey z) (rkey x) (rkey y) (by simp [rkey_len]) (by simp [rkey_len])
    have t3 := cmpL_swap (rkey y) (rkey z)
    by_cases e : cmpL (rkey x) (rkey z) = 0
    · have := t2 (by omega) (by omega); omega
    · omega
  ntr x y z h1 h2 := by
    rw [q_Less, decide_eq_false_iff_not] at *
    have a1 := cmpL_swap (rkey x) (rkey z)
    have a2 := cmpL_swap (rkey y) (rkey z)
    have a3 := cmpL_swap (rkey x) (rkey y)
    have t1 := cmpL_trans (rkey z) (rkey y) (rkey x) (by simp [rkey_len]) (by simp [rkey_len]) (by omega) (by omega)
    omega
noncomputable def selStep (acc : List TRoute) (x : TRoute) : List TRoute :=
  match acc.getLast? with
  | none => [x]
  | some z => bif peq z.fPrefix x.fPrefix then (bif S.rib_Less x z then acc.dropLast ++ [x] else acc) else acc ++ [x]
noncomputable def selF (l : List TRoute) : List TRoute := (ssort (ltc prc) l).foldl selStep []
theorem selStep_nil (x : TRoute) : selStep [] x = [x] := rfl
theorem selStep_snoc (l : List TRoute) (z x : TRoute) : selStep (l ++ [z]) x = bif peq z.fPrefix x.fPrefix then (bif S.rib_Less x z then l ++ [x] else l ++ [z]) else l ++ [z] ++ [x] := by
  simp [selStep]
theorem selStep_mem {acc : List TRoute} {x t : TRoute} (h : t ∈ selStep acc x) : t = x ∨ t ∈ acc := by
  rcases List.eq_nil_or_concat acc with rfl | ⟨l, z, rfl⟩
  · simp [selStep] at h; exact .inl h
  · rw [List.concat_eq_append, selStep_snoc] at h
    rw [List.concat_eq_append]
    rw [List.mem_append, List.mem_singleton]
    cases h1 : peq z.fPrefix x.fPrefix with
    | false =>
      simp only [h1, cond_false, List.mem_append, List.mem_singleton] at h
      rcases h with h | h
      · exact .inr h
      · exact .inl h
    | true =>
      cases h2 : S.rib_Less x z with
      | true =>
        simp only [h1, h2, cond_true, List.mem_append, List.mem_singleton] at h
        rcases h with h | h
        · exact .inr (.inl h)
        · exact .inl h
      | false =>
        simp only [h1, h2, cond_true, cond_false, List.mem_append, List.mem_singleton] at h
        exact .inr h
theorem selStep_len (acc : List TRoute) (x : TRoute) : (selStep acc x).length ≤ acc.length + 1 := by
  rcases List.eq_nil_or_concat acc with rfl | ⟨l, z, rfl⟩
  · simp [selStep]
  · rw [List.concat_eq_append, selStep_snoc]
    cases peq z.fPrefix x.fPrefix <;> cases S.rib_Less x z <;> simp
theorem set_last (l : List TRoute) (z x : TRoute) : (l ++ [z]).set l.length x = l ++ [x] := by simp
theorem sel1_step {r acc : List TRoute} {i : Nat} (hi : i < r.length) (ha : acc.length ≤ i) (hr : r.length ≤ 1000) (hL : ∀ x ∈ r, L_TRoute x) (hA : ∀ x ∈ acc, L_TRoute x) :
    M.rib_Select_l1 r (acc, (i : Int)) = some (.inl (selStep acc (r.getD i default), ((i + 1 : Nat) : Int))) := by
  have hx : L_TRoute (r.getD i default) := hL _ (by rw [List.getD_eq_getElem?_getD, List.getElem?_eq_getElem hi]; exact List.getElem_mem hi)
  have hup : wr .i64 ((i : Int) + 1) = ((i + 1 : Nat) : Int) := by rw [wrN (by omega) (by omega)]; omega
  unfold M.rib_Select_l1 M.rib_Select_k1
  simp only [Int.toNat_natCast, Nat.zero_add, hup]
  rw [s_then (decide_eq_true (by omega)) rfl, gdT (by simp; omega)]
  rcases List.eq_nil_or_concat acc with rfl | ⟨l, z, rfl⟩
  · have e : wr .i64 ((([] : List TRoute).length : Int) - 1) = -1 := by decide
    simp only [e]
    rw [show decide ((-1 : Int) < 0) = true by decide]
    simp only [Bool.not_true, guardB, cond_false, Bool.true_or, cond_true]
    rw [gdT (by simp), gdT (by simp)]
    rfl
  · rw [List.concat_eq_append] at hA ha ⊢
    simp only [List.length_append, List.length_cons, List.length_nil, Nat.zero_add] at ha
    have e : wr .i64 (((l ++ [z]).length : Int) - 1) = ((l.length : Nat) : Int) := by simp only [List.length_append, List.length_cons, List.length_nil]; rw [wrN (by omega) (by omega)]; omega
    have g : (l ++ [z]).getD l.length default = z := by simp
    have hz : L_TRoute z := hA z (by simp)
    simp only [e, Int.toNat_natCast, g]
    rw [show decide ((l.length : Int) < 0) = false by simp]
    simp only [Bool.not_false, guardB, cond_true, Bool.false_or]
    rw [gdT (by simp; omega), selStep_snoc]
    show (bif !peq z.fPrefix (r.getD i default).fPrefix then _ else _) = _
    cases hp : peq z.fPrefix (r.getD i default).fPrefix with
    | false =>
      simp only [Bool.not_false, cond_true, cond_false]
      rw [gdT (by simp; omega)]
    | true =>
      simp only [Bool.not_true, cond_true, cond_false]
      rw [s_rib_Less _ _ hx hz, Option.bind_some, gdT (by simp; omega)]
      cases S.rib_Less (r.getD i default) z with
      | true => simp only [cond_true]; rw [gdT (by simp; omega), set_last]
      | false => rfl
theorem sel1 {r : List TRoute} (hr : r.length ≤ 1000) (hL : ∀ x ∈ r, L_TRoute x) : ∀ (k i : Nat) (acc : List TRoute), i + k = r.length → acc.length ≤ i → (∀ x ∈ acc, L_TRoute x) → Iter (M.rib_Select_l1 r) (acc, (i : Int)) ((r.drop i).foldl selStep acc) := by
  intro k
  induction k with
  | zero =>
    intro i acc h1 h2 h3
    rw [List.drop_eq_nil_of_le (by omega)]
    refine .out ?_
    unfold M.rib_Select_l1
    exact s_else (decide_eq_false (by simp; omega)) rfl
  | succ k ih =>
    intro i acc h1 h2 h3
    have hi : i < r.length := by omega
    have hd : r.drop i = r.getD i default :: r.drop (i + 1) := by rw [List.drop_eq_getElem_cons hi]; simp [hi]
    rw [hd, List.foldl_cons]
    refine .next (sel1_step hi h2 hr hL h3) (ih (i + 1) _ (by omega) (by have := selStep_len acc (r.getD i default); omega) fun x hx => ?_)
    rcases selStep_mem hx with rfl | h
    · exact hL _ (by rw [List.getD_eq_getElem?_getD, List.getElem?_eq_getElem hi]; exact List.getElem_mem hi)
    · exact h3 x h
/-- Lists that can be copied. -/
def Cp (x : TRoute) : Prop := x.fPath.length * 8 ≤ 140737488355328 ∧ x.fHops.length * 16 ≤ 140737488355328
theorem clone_id {x : TRoute} (h : Cp x) : M.rib_clone x = some x := by
  unfold M.rib_clone M.slices_Clone_int_int M.slices_Clone_api_Hop_api_Hop
  have h1 := h.1; have h2 := h.2
  rw [gdT (by simp; omega), Option.bind_some, gdT (by simp; omega), Option.bind_some]
theorem sel2 {y : List TRoute} (hr : y.length ≤ 1000) (hC : ∀ x ∈ y, Cp x) : ∀ (k i : Nat), i + k = y.length → Iter (M.rib_Select_l2 y) (y, (i : Int)) y := by
  intro k
  induction k with
  | zero =>
    intro i h1
    refine .out ?_
    unfold M.rib_Select_l2
    exact s_else (decide_eq_false (by simp; omega)) rfl
  | succ k ih =>
    intro i h1
    have hi : i < y.length := by omega
    have hup : wr .i64 ((i : Int) + 1) = ((i + 1 : Nat) : Int) := by rw [wrN (by omega) (by omega)]; omega
    have hm : y.getD i default ∈ y := by rw [List.getD_eq_getElem?_getD, List.getElem?_eq_getElem hi]; exact List.getElem_mem hi
    refine .next ?_ (ih (i + 1) (by omega))
    unfold M.rib_Select_l2
    simp only [Int.toNat_natCast, Nat.zero_add, hup]
    rw [s_then (decide_eq_true (by omega)) rfl, gdT (by simp; omega), clone_id (hC _ hm), Option.bind_some, gdT (by simp; omega)]
    congr 3
    apply ext_at (by simp)
    intro j hj
    rw [at_set]
    by_cases e : i = j
    · subst e; rw [if_pos ⟨rfl, hi⟩]
    · rw [if_neg (by omega)]
theorem fold_mem {t : TRoute} : ∀ {s acc : List TRoute}, t ∈ s.foldl selStep acc → t ∈ s ∨ t ∈ acc
  | [], acc, h => .inr h
  | x :: s, acc, h => by
    rcases fold_mem (s := s) h with h | h
    · exact .inl (List.mem_cons_of_mem _ h)
    · rcases selStep_mem h with rfl | h
      · exact .inl List.mem_cons_self
      · exact .inr h
theorem fold_len : ∀ (s acc : List TRoute), (s.foldl selStep acc).length ≤ acc.length + s.length
  | [], acc => by simp
  | x :: s, acc => by
    have := fold_len s (selStep acc x)
    have := selStep_len acc x
    simp only [List.foldl_cons, List.length_cons]; omega
theorem selF_mem {l : List TRoute} {t : TRoute} (h : t ∈ selF l) : t ∈ l := by
  rcases fold_mem h with h | h
  · exact mem_ssort.1 h
  · cases h
theorem selF_len (l : List TRoute) : (selF l).length ≤ l.length := by
  have := fold_len (ssort (ltc prc) l) []
  rw [len_ssort] at this
  simpa [selF] using this
theorem zs_n : ∀ n, M.slices_symMergeCmpFunc_api_Route__rib_Select_1_n n = Z.symMerge_n M.rib_Select_1 n
  | 0 => rfl
  | n + 1 => by
    show M.slices_symMergeCmpFunc_api_Route__rib_Select_1_b (M.slices_symMergeCmpFunc_api_Route__rib_Select_1_n n) = Z.symMerge_b M.rib_Select_1 (Z.symMerge_n M.rib_Select_1 n)
    rw [zs_n n]; rfl
theorem zs : M.slices_symMergeCmpFunc_api_Route__rib_Select_1 = Z.symMerge M.rib_Select_1 := by
  funext l a m b
  unfold M.slices_symMergeCmpFunc_api_Route__rib_Select_1 Z.symMerge
  simp only [zs_n]
theorem zs_l3 : M.slices_stableCmpFunc_api_Route__rib_Select_1_l3 = Z.stable_l3 M.rib_Select_1 := by
  funext a p q
  unfold M.slices_stableCmpFunc_api_Route__rib_Select_1_l3 Z.stable_l3
  rw [zs]
theorem zs_l2 : M.slices_stableCmpFunc_api_Route__rib_Select_1_l2 = Z.stable_l2 M.rib_Select_1 := by
  funext a p
  unfold M.slices_stableCmpFunc_api_Route__rib_Select_1_l2 Z.stable_l2
  rw [zs_l3, zs]; rfl
theorem z_sort (l : List TRoute) : M.slices_SortStableFunc_api_Route_api_Route__rib_Select_1 l = Z.SortStable M.rib_Select_1 l := by
  unfold M.slices_SortStableFunc_api_Route_api_Route__rib_Select_1 Z.SortStable M.slices_stableCmpFunc_api_Route__rib_Select_1 Z.stable
  rw [zs_l2]; rfl
theorem rib_Select_eq {l : List TRoute} (hl : l.length ≤ 1000) (hL : ∀ x ∈ l, L_TRoute x) (hC : ∀ x ∈ l, Cp x) : M.rib_Select l = some (selF l) := by
  unfold M.rib_Select
  have h0 : M.slices_Clone_api_Route_api_Route l = some l := by
    unfold M.slices_Clone_api_Route_api_Route
    rw [gdT (by simp; omega)]
  have h1 : M.slices_SortStableFunc_api_Route_api_Route__rib_Select_1 l = some (ssort (ltc prc) l) :=
    (z_sort l).trans (stable_eq (c := prc) (fun x y => by
      unfold M.rib_Select_1
      rw [s_addr_Compare, Option.bind_some]
      rfl) prc_sw (by omega))
  have h2 := sel1 (r := ssort (ltc prc) l) (by rw [len_ssort]; omega) (fun x hx => hL x (mem_ssort.1 hx)) _ 0 [] (Nat.zero_add _) (Nat.zero_le _) (fun x hx => by cases hx)
  have h3 := sel2 (y := selF l) (by have := selF_len l; omega) (fun x hx => hC x (selF_mem hx)) _ 0 (Nat.zero_add _)
  rw [h0, Option.bind_some, h1, Option.bind_some, gdT (by simp [len_ssort])]
  rw [List.drop_zero] at h2
  have e : (ssort (ltc prc) l).foldl selStep [] = selF l := rfl
  rw [e] at h2
  rw [show ((0 : Int)) = ((0 : Nat) : Int) from rfl, loopM_of h2, Option.bind_some, loopM_of h3, Option.bind_some]

/-! one for each prefix, the first of the best -/
theorem lk_append (p : TPrefix) (l m : List TRoute) : lk p (l ++ m) = (lk p l).or (lk p m) := by unfold lk; exact List.find?_append
theorem asc_snoc {l : List TRoute} {x : TRoute} : Asc (l ++ [x]) ↔ Asc l ∧ ∀ t ∈ l, plt t.fPrefix x.fPrefix := by
  unfold Asc
  rw [List.pairwise_append]
  simp
theorem lk_one (p : TPrefix) (x : TRoute) : lk p [x] = bif peq x.fPrefix p then some x else none := by
  unfold lk
  cases h : peq x.fPrefix p <;> simp [List.find?_cons, h]
theorem selStep_ok {acc : List TRoute} {x : TRoute} (ha : Asc acc) (hx : ∀ t ∈ acc, ¬ plt x.fPrefix t.fPrefix) :
    Asc (selStep acc x) ∧ ∀ p, lk p (selStep acc x) = bif peq x.fPrefix p then pickS S.rib_Less (lk p acc) x else lk p acc := by
  rcases List.eq_nil_or_concat acc with rfl | ⟨l, z, rfl⟩
  · rw [selStep_nil]
    exact ⟨by simp [Asc], fun p => lk_one p x⟩
  · rw [List.concat_eq_append] at ha hx ⊢
    rw [asc_snoc] at ha
    rw [selStep_snoc]
    have hno : ∀ p, p = z.fPrefix → lk p l = none := fun p hp => lk_none fun t ht => by rw [hp]; exact plt_ne (ha.2 t ht)
    cases hp : peq z.fPrefix x.fPrefix with
    | false =>
      have hzx : plt z.fPrefix x.fPrefix := by
        rcases plt_tri z.fPrefix x.fPrefix with g | g | g
        · exact g
        · exact absurd g (peq_not.1 hp)
        · exact absurd g (hx z (by simp))
      simp only [cond_false]
      have hall : ∀ t ∈ l ++ [z], plt t.fPrefix x.fPrefix := fun t ht => by
        rcases List.mem_append.1 ht with h | h
        · exact plt_tr (ha.2 t h) hzx
        · simp at h; subst h; exact hzx
      refine ⟨asc_snoc.2 ⟨asc_snoc.2 ha, hall⟩, fun p => ?_⟩
      rw [lk_append, lk_one]
      cases hq : peq x.fPrefix p with
      | false => simp
      | true =>
        rw [peq_iff] at hq
        subst hq
        rw [lk_none fun t ht => plt_ne (hall t ht)]
        rfl
    | true =>
      rw [peq_iff] at hp
      simp only [cond_true]
      cases hl : S.rib_Less x z with
      | true =>
        simp only [cond_true]
        refine ⟨asc_snoc.2 ⟨ha.1, by rw [← hp]; exact ha.2⟩, fun p => ?_⟩
        rw [lk_append, lk_append, lk_one, lk_one, ← hp]
        cases hq : peq z.fPrefix p with
        | false => simp
        | true =>
          rw [hno p (peq_iff.1 hq).symm]
          simp [pickS, hl]
      | false =>
        simp only [cond_false]
        refine ⟨asc_snoc.2 ha, fun p => ?_⟩
        rw [lk_append, lk_one, ← hp]
        cases hq : peq z.fPrefix p with
        | false => simp
        | true =>
          rw [hno p (peq_iff.1 hq).symm]
          simp [pickS, hl]
theorem fold_ok : ∀ {s acc : List TRoute}, Asc acc → s.Pairwise (fun x y => ltc prc y x = false) → (∀ t ∈ acc, ∀ x ∈ s, ¬ plt x.fPrefix t.fPrefix) →
    Asc (s.foldl selStep acc) ∧ ∀ p, lk p (s.foldl selStep acc) = (s.filter (fun x => peq x.fPrefix p)).foldl (pickS S.rib_Less) (lk p acc)
  | [], acc, ha, _, _ => ⟨ha, fun _ => rfl⟩
  | x :: s, acc, ha, hs, hx => by
    rw [List.pairwise_cons] at hs
    obtain ⟨h1, h2⟩ := selStep_ok ha (fun t ht => hx t ht x List.mem_cons_self)
    obtain ⟨h3, h4⟩ := fold_ok (s := s) (acc := selStep acc x) h1 hs.2 (fun t ht y hy => by
      rcases selStep_mem ht with rfl | ht
      · have := hs.1 y hy
        rw [prc_lt, decide_eq_false_iff_not] at this
        exact this
      · exact hx t ht y (List.mem_cons_of_mem _ hy))
    refine ⟨h3, fun p => ?_⟩
    rw [List.foldl_cons, h4, h2]
    cases hq : peq x.fPrefix p with
    | true => rw [List.filter_cons_of_pos (p := fun x : TRoute => peq x.fPrefix p) hq]; rfl
    | false => rw [List.filter_cons_of_neg (p := fun x : TRoute => peq x.fPrefix p) (by simp [hq])]; rfl
theorem selF_ok (l : List TRoute) : Asc (selF l) ∧ ∀ p, lk p (selF l) = (l.filter (fun x => peq x.fPrefix p)).foldl (pickS S.rib_Less) none := by
  obtain ⟨h1, h2⟩ := fold_ok (s := ssort (ltc prc) l) (acc := []) (by simp [Asc]) (ssort_sorted prc_sw l) (fun t ht => by cases ht)
  refine ⟨h1, fun p => (h2 p).trans ?_⟩
  have := ssort_filter prc_sw ({ (default : TRoute) with fPrefix := p }) l
  rw [show eqv (ltc prc) ({ (default : TRoute) with fPrefix := p }) = fun x => peq x.fPrefix p from funext (prc_eqv _)] at this
  rw [this]
  rfl
theorem selF_best {l : List TRoute} {t : TRoute} (h : t ∈ selF l) : t ∈ l ∧ ∀ x ∈ l, x.fPrefix = t.fPrefix → S.rib_Less x t = false := by
  obtain ⟨h1, h2⟩ := selF_ok l
  refine ⟨selF_mem h, fun x hx hp => ?_⟩
  have h3 := h2 t.fPrefix
  rw [lk_mem h1 h] at h3
  have hxf : x ∈ l.filter (fun x => peq x.fPrefix t.fPrefix) := by rw [List.mem_filter]; exact ⟨hx, peq_iff.2 hp⟩
  cases hf : l.filter (fun x => peq x.fPrefix t.fPrefix) with
  | nil => rw [hf] at hxf; cases hxf
  | cons y r =>
    rw [hf, List.foldl_cons] at h3
    obtain ⟨t', e1, _, e3⟩ := pick_some less_sw r y
    rw [show pickS S.rib_Less none y = some y from rfl, e1] at h3
    cases h3
    exact e3 x (by rw [← hf]; exact hxf)
theorem selF_has {l : List TRoute} {x : TRoute} (h : x ∈ l) : ∃ t ∈ selF l, t.fPrefix = x.fPrefix := by
  obtain ⟨_, h2⟩ := selF_ok l
  have h3 := h2 x.fPrefix
  have hxf : x ∈ l.filter (fun y => peq y.fPrefix x.fPrefix) := by rw [List.mem_filter]; exact ⟨h, peq_iff.2 rfl⟩
  cases hf : l.filter (fun y => peq y.fPrefix x.fPrefix) with
  | nil => rw [hf] at hxf; cases hxf
  | cons y r =>
    rw [hf, List.foldl_cons] at h3
    obtain ⟨t', e1, _, _⟩ := pick_some less_sw r y
    rw [show pickS S.rib_Less none y = some y from rfl, e1] at h3
    exact ⟨t', lk_some h3⟩
end Nv
