/- The plain law of RouteMerges: Merge returns the documented table. -/
import Derived.Test.YtkonldpliejgpaaNvG6
import Derived.Test.YtkonldpliejgpaaNvR5
import Derived.Test.YtkonldpliejgpaaNvLW
import Derived.Test.YtkonldpliejgpaaNvS1
set_option maxRecDepth 100000
namespace Nv
open Go
theorem runN_none {β : Type} {g : Nat → Option β} {e : β} {n : Nat} (h : ∀ j, j < n → g j = none) : runN g e 0 n = e := by
  rcases runN_cases g e n 0 with ⟨j, _, h2, h3, _⟩ | ⟨h1, _⟩
  · rw [h j (by omega)] at h3; cases h3
  · exact h1
theorem same_rfl (x : TRoute) : S.ref15_Same x x = true := by
  unfold S.ref15_Same
  simp only [letS, beq_self_eq_true, bne_self_eq_false, Bool.and_true, Bool.not_true, Bool.or_false, Bool.false_or, cond_false]
  rw [runN_none (g := S.ref15_Same_l1 x x) (fun j _ => by unfold S.ref15_Same_l1; simp)]
  simp only [Sum.elim_inl]
  rw [runN_none (g := S.ref15_Same_l2 x x) (fun j _ => by unfold S.ref15_Same_l2; simp)]
  rfl
theorem sameAll_rfl (l : List TRoute) : S.ref15_SameAll l l = true := by
  unfold S.ref15_SameAll
  simp only [letS, bne_self_eq_false, cond_false]
  rw [runN_none (g := S.ref15_SameAll_l1 l l) (fun j _ => by unfold S.ref15_SameAll_l1; simp only [letS, same_rfl]; rfl)]
  rfl
theorem eqInt_rfl (l : List Int) : S.slices_Equal_int_int l l = true := by
  unfold S.slices_Equal_int_int
  simp only [letS, bne_self_eq_false, cond_false]
  rw [runN_none (g := S.slices_Equal_int_int_l1 l l) (fun j _ => by unfold S.slices_Equal_int_int_l1; simp)]
  rfl
theorem eqHop_rfl (l : List THop) : S.slices_Equal_api_Hop_api_Hop l l = true := by
  unfold S.slices_Equal_api_Hop_api_Hop
  simp only [letS, bne_self_eq_false, cond_false]
  rw [runN_none (g := S.slices_Equal_api_Hop_api_Hop_l1 l l) (fun j _ => by unfold S.slices_Equal_api_Hop_api_Hop_l1; simp)]
  rfl
theorem psame_rfl (x : TRoute) : S.route_Same x x = true := by
  unfold S.route_Same
  simp [letS, eqInt_rfl, eqHop_rfl]
theorem psameAll_rfl (l : List TRoute) : S.route_SameAll l l = true := by
  unfold S.route_SameAll S.slices_EqualFunc_api_Route_api_Route_api_Route_api_Route__route_Same
  simp only [letS, bne_self_eq_false, cond_false]
  rw [runN_none (g := S.slices_EqualFunc_api_Route_api_Route_api_Route_api_Route__route_Same_l1 l l) (fun j _ => by unfold S.slices_EqualFunc_api_Route_api_Route_api_Route_api_Route__route_Same_l1; simp only [letS, psame_rfl]; rfl)]
  rfl
theorem mer_all {l : List TRoute} {t : TRoute} (h : t ∈ mer l) : ∃ g, g ≠ [] ∧ (∀ x ∈ g, x ∈ l) ∧ g.length ≤ l.length ∧ t = mo g := by
  obtain ⟨h1, _, h3⟩ := mer_ok l
  have e := lk_mem h1 h
  rw [h3] at e
  split at e
  · cases e
  · rename_i hne
    exact ⟨_, hne, fun x hx => (List.mem_filter.1 hx).1, List.length_filter_le _ _, (Option.some.inj e).symm⟩
theorem mo_small {g : List TRoute} (hg : g ≠ []) (hl : g.length ≤ 100) (hh : ∀ x ∈ g, x.fHops.length ≤ 1000) (hp : ∀ x ∈ g, x.fPath.length ≤ 1000) : (mo g).fPath.length ≤ 1000 ∧ (mo g).fHops.length ≤ 100000 := by
  refine ⟨hp (bestOf g) (bestOf_mem hg), ?_⟩
  have h1 := ddp_len (sortP hcf (hopsOf (bestOf g) g))
  have h2 := (sortP_ok hcf_swo (hopsOf (bestOf g) g)).1
  have h3 := hopsOf_len (b := bestOf g) hh
  show (hset (hopsOf (bestOf g) g)).length ≤ _
  unfold hset
  omega
theorem few_len {l : List TRoute} (h : S.law14_few l = true) : l.length ≤ 40 ∧ ∀ x ∈ l, x.fPath.length ≤ 68 ∧ x.fHops.length ≤ 20 := by
  unfold S.law14_few at h
  simp only [letS] at h
  rw [show runN (S.law14_few_l1 l) (.inl () : Unit ⊕ Bool) 0 l.length = bif anyN (fun i => decide (((l.getD i default).fPath.length : Int) > 68) || decide (((l.getD i default).fHops.length : Int) > 20)) l.length then .inr false else .inl () from runN_any _ _ _ _] at h
  cases h1 : decide ((l.length : Int) > 40) with
  | true => rw [h1] at h; cases h
  | false =>
    rw [h1] at h
    cases h2 : anyN (fun i => decide (((l.getD i default).fPath.length : Int) > 68) || decide (((l.getD i default).fHops.length : Int) > 20)) l.length with
    | true => rw [h2] at h; cases h
    | false =>
      rw [decide_eq_false_iff_not] at h1
      refine ⟨by omega, fun x hx => ?_⟩
      obtain ⟨i, hi, rfl⟩ := List.getElem_of_mem hx
      have h3 := anyN_false.1 h2 i hi
      simp only [Bool.or_eq_false_iff, decide_eq_false_iff_not] at h3
      simp [hi] at h3
      omega
theorem one_all {l : List TRoute} (h : S.law14_One l = true) (i : Nat) (hi : i < l.length) : S.ref15_Valid (l.getD i default) = true ∧ (l.getD i default).fProto = (l.getD 0 default).fProto := by
  unfold S.law14_One at h
  simp only [letS] at h
  cases hf : S.law14_few l with
  | false => rw [hf] at h; simp at h
  | true =>
    rw [hf] at h
    simp only [Bool.not_true, cond_false] at h
    rcases runN_cases (S.law14_One_l1 l) (.inl ()) l.length 0 with ⟨j, _, _, h1, _⟩ | ⟨_, h2⟩
    · generalize runN (S.law14_One_l1 l) (.inl ()) 0 l.length = y at h h1
      unfold S.law14_One_l1 at h1
      simp only [letS] at h1
      obtain ⟨_, rfl⟩ := cond_some h1
      simp at h
    · have h3 := h2 i (Nat.zero_le _) (by omega)
      unfold S.law14_One_l1 at h3
      simp only [letS] at h3
      have h4 := cond_none h3
      simp only [Bool.or_eq_false_iff, Bool.not_eq_false', bne_eq_false_iff_eq] at h4
      exact ⟨h4.1, h4.2⟩
theorem one_few {l : List TRoute} (h : S.law14_One l = true) : S.law14_few l = true := by
  unfold S.law14_One at h
  simp only [letS] at h
  cases hf : S.law14_few l with
  | false => rw [hf] at h; simp at h
  | true => rfl
theorem pref_eq {a b : TRoute} (wa : W_TRoute a) (wb : W_TRoute b) (va : S.ref15_Valid a = true) (vb : S.ref15_Valid b = true) (h2 : a.fProto = b.fProto) : S.ref15_Prefer a b = S.route_Prefer a b := by
  have f0 : wr .i64 a.fFrom = a.fFrom := wr_i64 (u32_in wa.2.2.2.2.2.2.2.2.2.1)
  have f1 : wr .i64 b.fFrom = b.fFrom := wr_i64 (u32_in wb.2.2.2.2.2.2.2.2.2.1)
  have e := cmp_rank h2 (fun h => wr_i64 (by have := valid_pref va h; omega)) (fun h => wr_i64 (by have := valid_pref vb (by rw [← h2]; exact h); omega)) f0 f1 (valid_proto va)
  rw [q_ref, e, q_Prefer h2]
theorem plain_RouteMerges (a0 : List TRoute) (w0 : a0.length ≤ maxLen ∧ a0.length * 136 ≤ reachBytes ∧ ∀ y ∈ a0, W_TRoute y) : M.law14_RouteMerges a0 = some true := by
  have hL : LL L_TRoute a0 := ⟨w0.1, fun x hx => LofW_TRoute (w0.2.2 x hx)⟩
  unfold M.law14_RouteMerges
  rw [s_law14_One a0 hL, Option.bind_some]
  cases hf : S.law14_One a0 with
  | false => rfl
  | true =>
    obtain ⟨h40, hs⟩ := few_len (one_few hf)
    have hv : ∀ x ∈ a0, S.ref15_Valid x = true ∧ x.fProto = (a0.getD 0 default).fProto := fun x hx => by
      obtain ⟨i, hi, rfl⟩ := List.getElem_of_mem hx
      have := one_all hf i hi
      simpa [hi] using this
    have hE : ∀ x ∈ a0, ∀ y ∈ a0, S.ref15_Prefer x y = S.route_Prefer x y := fun x hx y hy => pref_eq (w0.2.2 x hx) (w0.2.2 y hy) (hv x hx).1 (hv y hy).1 ((hv x hx).2.trans (hv y hy).2.symm)
    have e1 := merge_eq (l := a0) (by omega) hL.2 (fun x hx => by have := (hs x hx).2; omega) (fun x hx => by have := (hs x hx).1; omega)
    have e2 := rmerge_eq (l := a0) (by omega) hL.2 (fun x hx => by have := (hs x hx).2; omega) (fun x hx => by have := (hs x hx).1; omega) hE
    have hm : LL L_TRoute (mer a0) := by
      have e : maxLen = 9223372036854775807 := rfl
      refine ⟨?_, fun t ht => ?_⟩
      · have h1 := mg_len _ (ssort (ltc prc) a0) (Nat.le_refl _)
        rw [len_ssort] at h1
        show (mg (ssort (ltc prc) a0)).length ≤ _
        omega
      · obtain ⟨g, hg, h1, h2, rfl⟩ := mer_all ht
        obtain ⟨h3, h4⟩ := mo_small hg (by omega) (fun x hx => by have := (hs x (h1 x hx)).2; omega) (fun x hx => by have := (hs x (h1 x hx)).1; omega)
        exact ⟨by omega, by omega⟩
    simp only [Bool.not_true, cond_false]
    rw [e1, e2]
    simp only [Option.bind_some]
    rw [s_route_SameAll _ _ hm hm, psameAll_rfl]
    simp only [gc, cond_true, Option.bind_some]
    rw [s_ref15_SameAll _ _ hm hm, sameAll_rfl]
    simp only [Option.bind_some, Bool.and_true, cond_true]
    rw [sane_some]
    rfl
end Nv
