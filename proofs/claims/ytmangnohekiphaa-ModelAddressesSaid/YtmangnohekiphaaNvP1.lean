/- The plain law of ModelAddresses: in a valid network every address belongs to one interface, and the networks of a router's interfaces are disjoint. -/
import Derived.Test.YtmangnohekiphaaNvT2
import Derived.Test.YtmangnohekiphaaNvLW
import Derived.Test.YtmangnohekiphaaNvQ4
namespace Nv
open Go

theorem i_Address (a : TRouter) (n : Int) : S.model_Address a n = idxN (fun j => ((a.fInterfaces.getD j default).fLen != 0) && ((a.fInterfaces.getD j default).fAddr == n)) a.fInterfaces.length := rfl
/-- An interface of the first router whose address is one of the second's: they share it. -/
theorem share_of {q r : TRouter} {j k : Nat} (hj : j < r.fInterfaces.length) (hk : k < q.fInterfaces.length) (h1 : (r.fInterfaces.getD j default).fLen ≠ 0) (h2 : (q.fInterfaces.getD k default).fLen ≠ 0)
    (h : (q.fInterfaces.getD k default).fAddr = (r.fInterfaces.getD j default).fAddr) : S.model_shareAddress q r = true := by
  have h3 := idx_ge (fun j => S.model_shareAddress_1 (r.fInterfaces.getD j default) q) r.fInterfaces.length
  refine Eq.trans (show S.model_shareAddress q r = _ from rfl) (h3.trans (anyN_true.2 ⟨j, hj, ?_⟩))
  unfold S.model_shareAddress_1
  have e1 : ((r.fInterfaces.getD j default).fLen != 0) = true := by simpa using h1
  simp only [letS, e1, cond_true, Bool.true_and]
  rw [i_Address, idx_ge]
  refine anyN_true.2 ⟨k, hk, ?_⟩
  have e2 : ((q.fInterfaces.getD k default).fLen != 0) = true := by simpa using h2
  rw [e2, h]
  simp
theorem addr_first {r : TRouter} (h : S.model_CheckRouter r = 0) {k : Nat} (hk : k < r.fInterfaces.length) (h1 : (r.fInterfaces.getD k default).fLen ≠ 0) : S.model_Address r (r.fInterfaces.getD k default).fAddr = (k : Int) := by
  rw [i_Address]
  have e2 : ((r.fInterfaces.getD k default).fLen != 0) = true := by simpa using h1
  rcases idxN_cases (fun j => ((r.fInterfaces.getD j default).fLen != 0) && ((r.fInterfaces.getD j default).fAddr == (r.fInterfaces.getD k default).fAddr)) r.fInterfaces.length with ⟨j, j1, j2, j3, j4⟩ | ⟨j1, j2⟩
  · rw [j4]
    rcases Nat.lt_trichotomy j k with h2 | rfl | h2
    · exfalso
      simp only [Bool.and_eq_true, bne_iff_ne, ne_eq, beq_iff_eq] at j2
      have := ifs_apart h hk h2 h1 j2.1
      rw [overlap_of (x := (r.fInterfaces.getD k default).fAddr) rfl (by rw [j2.2])] at this
      cases this
    · rfl
    · have := j3 k h2
      rw [e2] at this
      simp at this
  · have := j2 k hk
    rw [e2] at this
    simp at this
theorem q_net (a n : Int) : S.ref4_Network a n = ⟨bitD .and .u32 a (mk32 n), cl32 n⟩ := by
  unfold S.ref4_Network
  simp only [letS, S.ref4_Mask]
  have e : (if 0 > (if 32 < n then 32 else n) then 0 else (if 32 < n then 32 else n)) = cl32 n := by unfold cl32; split <;> split <;> (try split) <;> omega
  rw [e, mk32_cl]
theorem l4_none {a : TNetwork} (h : S.model_Check a = 0) {i k : Nat} (hi : i < a.fRouters.length) (hk : k < (a.fRouters.getD i default).fInterfaces.length) (h1 : ((a.fRouters.getD i default).fInterfaces.getD k default).fLen ≠ 0) (s : Int) :
    runN (S.law5_ModelAddresses_l4 a i k s) (.inl ()) 0 a.fRouters.length = .inl () := by
  rcases runN_cases (S.law5_ModelAddresses_l4 a i k s) (.inl ()) a.fRouters.length 0 with ⟨j, j1, j2, j3, j4⟩ | ⟨j1, j2⟩
  · exfalso
    have hj : j < a.fRouters.length := by omega
    revert j3
    generalize runN _ _ 0 _ = z
    unfold S.law5_ModelAddresses_l4
    simp only [letS]
    by_cases he : j = i
    · subst he
      rw [addr_first (check_router h hj) hk h1]
      simp
    · have hneg : decide (S.model_Address (a.fRouters.getD j default) ((a.fRouters.getD i default).fInterfaces.getD k default).fAddr ≥ 0) = false := by
        rw [i_Address, idx_ge]
        refine anyN_false.2 fun m hm => ?_
        cases hc : (((a.fRouters.getD j default).fInterfaces.getD m default).fLen != 0) && (((a.fRouters.getD j default).fInterfaces.getD m default).fAddr == ((a.fRouters.getD i default).fInterfaces.getD k default).fAddr) with
        | false => rfl
        | true =>
          exfalso
          simp only [Bool.and_eq_true, bne_iff_ne, ne_eq, beq_iff_eq] at hc
          rcases Nat.lt_or_gt_of_ne he with hlt | hgt
          · have := (check_share h hi hlt).2
            rw [share_of hk hm h1 hc.1 hc.2] at this
            cases this
          · have := (check_share h hj hgt).2
            rw [share_of hm hk hc.1 h1 hc.2.symm] at this
            cases this
      have hne : ((j : Int) == (i : Int)) = false := by simp; omega
      rw [hneg, hne]
      intro h; cases h
  · exact j1
theorem l2_none {a : TNetwork} (x : Int) (h : S.model_Check a = 0) {i : Nat} (hi : i < a.fRouters.length) : S.law5_ModelAddresses_l2 a x i = none := by
  unfold S.law5_ModelAddresses_l2
  let C : Nat → Prop := fun k => ((a.fRouters.getD i default).fInterfaces.getD k default).fLen ≠ 0 ∧ bitD .and .u32 x (mk32 ((a.fRouters.getD i default).fInterfaces.getD k default).fLen) = bitD .and .u32 ((a.fRouters.getD i default).fInterfaces.getD k default).fAddr (mk32 ((a.fRouters.getD i default).fInterfaces.getD k default).fLen)
  obtain ⟨s, h1, h2⟩ := runT_all (g := S.law5_ModelAddresses_l3 a x i) (e := fun s11 => (.inl s11 : Int ⊕ Bool)) (fun k s => (s = 0 ∧ ∀ j, j < k → ¬ C j) ∨ (s = 1 ∧ ∃ j, j < k ∧ C j)) ((a.fRouters.getD i default).fInterfaces).length 0 0 (fun k s _ hk hJ => by
    have hk : k < ((a.fRouters.getD i default).fInterfaces).length := by omega
    unfold S.law5_ModelAddresses_l3 S.law5_ModelAddresses_k2 S.law5_ModelAddresses_k1
    cases hl : ((a.fRouters.getD i default).fInterfaces.getD k default).fLen == 0 with
    | true =>
      refine ⟨s, rfl, ?_⟩
      have hn : ¬ C k := fun hc => hc.1 (by simpa using hl)
      rcases hJ with ⟨h3, h4⟩ | ⟨h3, j, h4, h5⟩
      · exact .inl ⟨h3, fun j hj => by
          rcases Nat.lt_or_ge j k with h | h
          · exact h4 j h
          · obtain rfl : j = k := by omega
            exact hn⟩
      · exact .inr ⟨h3, j, by omega, h5⟩
    | false =>
      have hl0 : ((a.fRouters.getD i default).fInterfaces.getD k default).fLen ≠ 0 := by simpa using hl
      simp only [letS, cond_false, l4_none h hi hk hl0, Sum.elim_inl]
      rw [q_net]
      unfold S.ref4_Contains
      simp only [letS, S.ref4_Mask, mk32_cl]
      cases hc : bitD .and .u32 x (mk32 ((a.fRouters.getD i default).fInterfaces.getD k default).fLen) == bitD .and .u32 ((a.fRouters.getD i default).fInterfaces.getD k default).fAddr (mk32 ((a.fRouters.getD i default).fInterfaces.getD k default).fLen) with
      | false =>
        refine ⟨s, rfl, ?_⟩
        have hn : ¬ C k := fun hc' => by rw [hc'.2] at hc; simp at hc
        rcases hJ with ⟨h3, h4⟩ | ⟨h3, j, h4, h5⟩
        · exact .inl ⟨h3, fun j hj => by
            rcases Nat.lt_or_ge j k with h | h
            · exact h4 j h
            · obtain rfl : j = k := by omega
              exact hn⟩
        · exact .inr ⟨h3, j, by omega, h5⟩
      | true =>
        have hck : C k := ⟨hl0, by simpa using hc⟩
        refine ⟨_, rfl, ?_⟩
        rcases hJ with ⟨h3, h4⟩ | ⟨h3, j, h4, h5⟩
        · exact .inr ⟨by rw [h3]; rfl, k, by omega, hck⟩
        · exfalso
          have := ifs_apart (check_router h hi) hk h4 hl0 h5.1
          rw [overlap_of (x := x) hck.2 h5.2] at this
          cases this) (.inl ⟨rfl, fun j hj => by omega⟩)
  simp only [letS]
  rw [h1]
  rcases h2 with ⟨h2, _⟩ | ⟨h2, _⟩ <;> rw [h2] <;> rfl
theorem plain_ModelAddresses (a0 : TNetwork) (a1 : Int) (w0 : W_TNetwork a0) (_w1 : (Lit.int .u32 a1).wf = true) : M.law5_ModelAddresses a0 a1 = some true := by
  rw [s_law5_ModelAddresses a0 a1 (LofW_TNetwork w0)]
  unfold S.law5_ModelAddresses
  cases decide ((a0.fRouters.length : Int) > 8) with
  | true => rfl
  | false =>
    have h1 : runN (S.law5_ModelAddresses_l1 a0) (.inl ()) 0 a0.fRouters.length = _ := runN_any (β := Unit ⊕ Bool) (fun i => !S.law5_Small (a0.fRouters.getD i default)) (.inr true) (.inl ()) a0.fRouters.length
    simp only [letS, cond_false]
    rw [h1]
    cases anyN (fun i => !S.law5_Small (a0.fRouters.getD i default)) a0.fRouters.length with
    | true => rfl
    | false =>
      simp only [cond_false, Sum.elim_inl]
      cases hc : S.model_Check a0 != 0 with
      | true => simp only [cond_true, sane_true]
      | false =>
        have hc0 : S.model_Check a0 = 0 := by simpa using hc
        rcases runN_cases (S.law5_ModelAddresses_l2 a0 a1) (.inl ()) a0.fRouters.length 0 with ⟨j, j1, j2, j3, j4⟩ | ⟨j1, j2⟩
        · rw [l2_none a1 hc0 (by omega)] at j3; cases j3
        · rw [j1]
          simp only [cond_false, Sum.elim_inl, sane_true]
end Nv
