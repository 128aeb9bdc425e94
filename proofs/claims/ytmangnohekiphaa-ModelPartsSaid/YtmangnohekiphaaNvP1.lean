/- The plain law of ModelParts: each router of a valid network is valid, and so is a network of one of them. -/
import Derived.Test.YtmangnohekiphaaNvT2
import Derived.Test.YtmangnohekiphaaNvLW
import Derived.Test.YtmangnohekiphaaNvRun
namespace Nv
open Go

/-- The check of a network finds nothing: the routers' checks find nothing. -/
theorem check_router {a : TNetwork} (h : S.model_Check a = 0) {i : Nat} (hi : i < a.fRouters.length) : S.model_CheckRouter (a.fRouters.getD i default) = 0 := by
  unfold S.model_Check at h
  cases hc : decide ((a.fRouters.length : Int) > 8) with
  | true => rw [hc] at h; cases h
  | false =>
    rw [hc] at h
    simp only [cond_false, letS] at h
    rcases runN_cases (S.model_Check_l1 a) (.inl ()) a.fRouters.length 0 with ⟨j, h1, h2, h3, h4⟩ | ⟨h1, h2⟩
    · exfalso
      generalize runN (S.model_Check_l1 a) (.inl ()) 0 a.fRouters.length = z at h h3
      unfold S.model_Check_l1 at h3
      simp only [letS] at h3
      cases hb : S.model_CheckRouter (a.fRouters.getD j default) != 0 with
      | true =>
        rw [hb] at h3
        simp only [cond_true, Option.some.injEq] at h3
        subst h3
        simp only [Sum.elim_inr] at h
        rw [h] at hb
        cases hb
      | false =>
        rw [hb] at h3
        simp only [cond_false] at h3
        rcases runN_cases (S.model_Check_l2 a j) (.inl ()) j 0 with ⟨k, k1, k2, k3, k4⟩ | ⟨k1, k2⟩
        · generalize runN (S.model_Check_l2 a j) (.inl ()) 0 j = y at h3 k3
          unfold S.model_Check_l2 at k3
          simp only [letS] at k3
          revert k3
          generalize (_ || _ : Bool) = b
          cases b
          · intro k3; cases k3
          · intro k3
            simp only [cond_true, Option.some.injEq] at k3
            subst k3
            simp only [Sum.elim_inr, Option.some.injEq] at h3
            subst h3
            cases h
        · rw [k1] at h3
          cases h3
    · have h3 := h2 i (Nat.zero_le _) (by omega)
      unfold S.model_Check_l1 at h3
      simp only [letS] at h3
      cases hb : S.model_CheckRouter (a.fRouters.getD i default) != 0 with
      | true => rw [hb] at h3; cases h3
      | false => simpa using hb
theorem check_one {r : TRouter} (h : S.model_CheckRouter r = 0) : S.model_Check ⟨[r]⟩ = 0 := by
  unfold S.model_Check
  simp only [List.length_cons, List.length_nil, letS, runN, S.model_Check_l1, List.getD_cons_zero, h]
  rfl
theorem plain_ModelParts (a0 : TNetwork) (a1 : Int) (w0 : W_TNetwork a0) (_w1 : (Lit.int .i64 a1).wf = true) : M.law5_ModelParts a0 a1 = some true := by
  rw [s_law5_ModelParts a0 a1 (LofW_TNetwork w0)]
  unfold S.law5_ModelParts
  cases hb : ((decide ((a0.fRouters.length : Int) > 10)) || (decide (a1 < 0))) || (decide (a1 ≥ (a0.fRouters.length : Int))) with
  | true => rfl
  | false =>
    have h1 : runN (S.law5_ModelParts_l1 a0) (.inl ()) 0 a0.fRouters.length = _ := runN_any (β := Unit ⊕ Bool) (fun i => !S.law5_Small (a0.fRouters.getD i default)) (.inr true) (.inl ()) a0.fRouters.length
    simp only [letS, cond_false]
    rw [h1]
    cases anyN (fun i => !S.law5_Small (a0.fRouters.getD i default)) a0.fRouters.length with
    | true => rfl
    | false =>
      simp only [cond_false, Sum.elim_inl]
      cases hc : S.model_Check a0 != 0 with
      | true => simp only [cond_true, sane_true]
      | false =>
        have hc0 : S.model_Check a0 = 0 := by simpa using hc
        simp only [Bool.or_eq_false_iff, decide_eq_false_iff_not] at hb
        have hlt : a1.toNat < a0.fRouters.length := by omega
        have hr := check_router hc0 hlt
        have hw : wr .i64 (a1 + 1) = a1 + 1 := by unfold wr; exact IntWalk.i64_in _ (by omega)
        have he : ((a0.fRouters.drop a1.toNat).take ((wr .i64 (a1 + 1)).toNat - a1.toNat)) = [a0.fRouters.getD a1.toNat default] := by
          rw [hw, show (a1 + 1).toNat - a1.toNat = 1 by omega, List.drop_eq_getElem_cons hlt]
          have hg : a0.fRouters.getD a1.toNat default = a0.fRouters[a1.toNat] := by simp [hlt]
          rw [hg]
          rfl
        rw [he, hr, check_one hr]
        simp [sane_true]
end Nv
