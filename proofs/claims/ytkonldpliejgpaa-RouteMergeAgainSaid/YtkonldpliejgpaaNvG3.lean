/- Merge of the program: what it gives. No condition. -/
import Derived.Test.YtkonldpliejgpaaNvG2
import Derived.Test.YtkonldpliejgpaaNvLibC
set_option maxRecDepth 10000
namespace Nv
open Go Go.Sort Go.Proofs
theorem zs_n : ∀ n, M.slices_symMergeCmpFunc_api_Route__route_Merge_1_n n = Z.symMerge_n M.route_Merge_1 n
  | 0 => rfl
  | n + 1 => by
    show M.slices_symMergeCmpFunc_api_Route__route_Merge_1_b (M.slices_symMergeCmpFunc_api_Route__route_Merge_1_n n) = Z.symMerge_b M.route_Merge_1 (Z.symMerge_n M.route_Merge_1 n)
    rw [zs_n n]; rfl
theorem zs : M.slices_symMergeCmpFunc_api_Route__route_Merge_1 = Z.symMerge M.route_Merge_1 := by
  funext l a m b
  unfold M.slices_symMergeCmpFunc_api_Route__route_Merge_1 Z.symMerge
  simp only [zs_n]
theorem zs_l3 : M.slices_stableCmpFunc_api_Route__route_Merge_1_l3 = Z.stable_l3 M.route_Merge_1 := by
  funext a p q
  unfold M.slices_stableCmpFunc_api_Route__route_Merge_1_l3 Z.stable_l3
  rw [zs]
theorem zs_l2 : M.slices_stableCmpFunc_api_Route__route_Merge_1_l2 = Z.stable_l2 M.route_Merge_1 := by
  funext a p
  unfold M.slices_stableCmpFunc_api_Route__route_Merge_1_l2 Z.stable_l2
  rw [zs_l3, zs]; rfl
theorem z_sort (l : List TRoute) : M.slices_SortStableFunc_api_Route_api_Route__route_Merge_1 l = Z.SortStable M.route_Merge_1 l := by
  unfold M.slices_SortStableFunc_api_Route_api_Route__route_Merge_1 Z.SortStable M.slices_stableCmpFunc_api_Route__route_Merge_1 Z.stable
  rw [zs_l2]; rfl
theorem me_l2_eq (r acc : List TRoute) (s e : Nat) (he : e ≤ r.length) (hs : s < r.length) : M.route_Merge_l2 r (acc, (s : Int)) (e : Int) = bif decide ((e : Int) < (r.length : Int)) && peq (r.getD e default).fPrefix (r.getD s default).fPrefix then some (.inl (wr .i64 ((e : Int) + 1))) else some (.inr (e : Int)) := by
  unfold M.route_Merge_l2
  simp only [Int.toNat_natCast]
  rw [gdT]
  · rfl
  · cases hc : decide ((e : Int) < (r.length : Int)) <;> simp [guardB] <;> omega
theorem me_l2 {r acc : List TRoute} (hr : r.length ≤ 100000) {s : Nat} (hs : s < r.length) : ∀ (n e : Nat), e + n = r.length → Iter (M.route_Merge_l2 r (acc, (s : Int))) (e : Int) ((e + ((r.drop e).takeWhile (sameP (r.getD s default).fPrefix)).length : Nat) : Int) := by
  intro n
  induction n with
  | zero =>
    intro e h1
    rw [List.drop_eq_nil_of_le (by omega)]
    refine .out ?_
    rw [me_l2_eq r acc s e (by omega) hs, show decide ((e : Int) < (r.length : Int)) = false from decide_eq_false (by omega)]
    rfl
  | succ n ih =>
    intro e h1
    have he : e < r.length := by omega
    have hd : r.drop e = r.getD e default :: r.drop (e + 1) := by rw [List.drop_eq_getElem_cons he]; simp [he]
    have hup : wr .i64 ((e : Int) + 1) = ((e + 1 : Nat) : Int) := by rw [wrN (by omega) (by omega)]; omega
    have st := me_l2_eq r acc s e (by omega) hs
    rw [show decide ((e : Int) < (r.length : Int)) = true from decide_eq_true (by omega), Bool.true_and, hup] at st
    rw [hd]
    cases hc : peq (r.getD e default).fPrefix (r.getD s default).fPrefix with
    | true =>
      rw [hc] at st
      rw [List.takeWhile_cons_of_pos (p := sameP (r.getD s default).fPrefix) hc, List.length_cons, show e + (((r.drop (e + 1)).takeWhile (sameP (r.getD s default).fPrefix)).length + 1) = e + 1 + ((r.drop (e + 1)).takeWhile (sameP (r.getD s default).fPrefix)).length by omega]
      exact .next st (ih (e + 1) (by omega))
    | false =>
      rw [hc] at st
      rw [List.takeWhile_cons_of_neg (p := sameP (r.getD s default).fPrefix) (by show ¬ peq _ _ = true; rw [hc]; exact Bool.false_ne_true), List.length_nil, Nat.add_zero]
      exact .out st
theorem take_tw (p : TRoute → Bool) : ∀ t : List TRoute, t.take (t.takeWhile p).length = t.takeWhile p ∧ t.drop (t.takeWhile p).length = t.dropWhile p
  | [] => ⟨rfl, rfl⟩
  | x :: t => by
    cases hc : p x with
    | true =>
      rw [List.takeWhile_cons_of_pos hc, List.dropWhile_cons_of_pos hc, List.length_cons, List.take_succ_cons, List.drop_succ_cons, (take_tw p t).1, (take_tw p t).2]
      exact ⟨rfl, rfl⟩
    | false =>
      have hn : ¬ p x = true := by rw [hc]; exact Bool.false_ne_true
      rw [List.takeWhile_cons_of_neg hn, List.dropWhile_cons_of_neg hn]
      exact ⟨rfl, rfl⟩
theorem me_l1 {r : List TRoute} (hr : r.length ≤ 100) (hL : ∀ x ∈ r, L_TRoute x) (hh : ∀ x ∈ r, x.fHops.length ≤ 1000) (hp : ∀ x ∈ r, x.fPath.length ≤ 1000) : ∀ (n s : Nat) (acc : List TRoute), r.length - s ≤ n → s ≤ r.length → acc.length ≤ s → Iter (M.route_Merge_l1 r) (acc, (s : Int)) (acc ++ mg (r.drop s)) := by
  intro n
  induction n with
  | zero =>
    intro s acc h1 h2 h3
    rw [List.drop_eq_nil_of_le (by omega), mg_nil, List.append_nil]
    refine .out ?_
    unfold M.route_Merge_l1
    rw [show decide ((s : Int) < (r.length : Int)) = false from decide_eq_false (by omega), cond_false]
  | succ n ih =>
    intro s acc h1 h2 h3
    by_cases hs : s < r.length
    · have hd : r.drop s = r.getD s default :: r.drop (s + 1) := by rw [List.drop_eq_getElem_cons hs]; simp [hs]
      have hup : wr .i64 ((s : Int) + 1) = ((s + 1 : Nat) : Int) := by rw [wrN (by omega) (by omega)]; omega
      have i2 := me_l2 (acc := acc) (by omega) hs (r.length - (s + 1)) (s + 1) (by omega)
      obtain ⟨t1, t2⟩ := take_tw (sameP (r.getD s default).fPrefix) (r.drop (s + 1))
      generalize hk : ((r.drop (s + 1)).takeWhile (sameP (r.getD s default).fPrefix)).length = k at *
      have hkl : k ≤ r.length - (s + 1) := by
        rw [← hk, ← List.length_drop]; exact (List.takeWhile_sublist _).length_le
      have hg : (r.drop s).take (s + 1 + k - s) = r.getD s default :: (r.drop (s + 1)).takeWhile (sameP (r.getD s default).fPrefix) := by
        rw [show s + 1 + k - s = k + 1 by omega, hd, List.take_succ_cons, t1]
      have hsub : ∀ x ∈ (r.drop s).take (s + 1 + k - s), x ∈ r := fun x hx => List.mem_of_mem_drop (List.mem_of_mem_take hx)
      have hm := mergeOne_eq (g := (r.drop s).take (s + 1 + k - s)) (by rw [hg]; simp) (by rw [List.length_take]; omega) (fun x hx => hL x (hsub x hx)) (fun x hx => hh x (hsub x hx)) (fun x hx => hp x (hsub x hx))
      have hdr : r.drop (s + 1 + k) = (r.drop (s + 1)).dropWhile (sameP (r.getD s default).fPrefix) := by rw [← t2, List.drop_drop]
      rw [hd, mg_cons, List.append_cons, ← hdr, ← hg]
      refine .next (x' := (acc ++ [mo ((r.drop s).take (s + 1 + k - s))], ((s + 1 + k : Nat) : Int))) ?_ (ih (s + 1 + k) _ (by omega) (by omega) (by rw [List.length_append, List.length_singleton]; omega))
      unfold M.route_Merge_l1
      simp only [Int.toNat_natCast, hup]
      rw [show decide ((s : Int) < (r.length : Int)) = true from decide_eq_true (by omega), cond_true]
      refine Option.bind_eq_some_iff.2 ⟨_, loopM_of i2, ?_⟩
      simp only [Int.toNat_natCast]
      rw [hm, Option.bind_some, gdT (by simp; omega)]
    · rw [List.drop_eq_nil_of_le (by omega), mg_nil, List.append_nil]
      refine .out ?_
      unfold M.route_Merge_l1
      rw [show decide ((s : Int) < (r.length : Int)) = false from decide_eq_false (by omega), cond_false]
noncomputable def mer (l : List TRoute) : List TRoute := mg (ssort (ltc prc) l)
theorem merge_eq {l : List TRoute} (hl : l.length ≤ 100) (hL : ∀ x ∈ l, L_TRoute x) (hh : ∀ x ∈ l, x.fHops.length ≤ 1000) (hp : ∀ x ∈ l, x.fPath.length ≤ 1000) : M.route_Merge l = some (mer l) := by
  have h0 : M.slices_Clone_api_Route_api_Route l = some l := by
    unfold M.slices_Clone_api_Route_api_Route
    rw [gdT (by simp; omega)]
  have h1 : M.slices_SortStableFunc_api_Route_api_Route__route_Merge_1 l = some (ssort (ltc prc) l) :=
    (z_sort l).trans (stable_eq (c := prc) (fun x y => by
      unfold M.route_Merge_1
      rw [s_addr_Compare, Option.bind_some]
      rfl) prc_sw (by omega))
  have i1 := me_l1 (r := ssort (ltc prc) l) (by rw [len_ssort]; omega) (fun x hx => hL x (mem_ssort.1 hx)) (fun x hx => hh x (mem_ssort.1 hx)) (fun x hx => hp x (mem_ssort.1 hx)) _ 0 [] (Nat.le_refl _) (Nat.zero_le _) (Nat.zero_le _)
  rw [List.drop_zero, List.nil_append] at i1
  unfold M.route_Merge
  rw [h0, Option.bind_some, h1, Option.bind_some, gdT (by simp [len_ssort]), show ((0 : Int)) = ((0 : Nat) : Int) from rfl, loopM_of i1, Option.bind_some]
  rfl
theorem mer_ok (l : List TRoute) : Asc (mer l) ∧ (∀ t ∈ mer l, ∃ x ∈ l, x.fPrefix = t.fPrefix) ∧ ∀ p, lk p (mer l) = if l.filter (sameP p) = [] then none else some (mo (l.filter (sameP p))) := by
  have hs : PSorted (ssort (ltc prc) l) := (ssort_sorted prc_sw l).imp fun {a b} h => by rw [prc_lt, decide_eq_false_iff_not] at h; exact h
  obtain ⟨h1, h2, h3⟩ := mg_ok _ (ssort (ltc prc) l) (Nat.le_refl _) hs
  have hf : ∀ p, (ssort (ltc prc) l).filter (sameP p) = l.filter (sameP p) := fun p => by
    have e := ssort_filter prc_sw (⟨p, 0, 0, 0, 0, 0, 0, 0, [], 0, 0, [], false⟩ : TRoute) l
    have e2 : eqv (ltc prc) (⟨p, 0, 0, 0, 0, 0, 0, 0, [], 0, 0, [], false⟩ : TRoute) = sameP p := by funext x; rw [prc_eqv]; rfl
    rw [e2] at e
    exact e
  refine ⟨h1, fun t ht => ?_, fun p => by unfold mer; rw [h3, hf]⟩
  obtain ⟨x, hx, e⟩ := h2 t ht
  exact ⟨x, mem_ssort.1 hx, e⟩
end Nv
