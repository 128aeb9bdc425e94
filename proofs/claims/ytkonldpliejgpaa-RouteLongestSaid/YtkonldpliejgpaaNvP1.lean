/- The plain law of RouteLongest: the last best index is the longest that contains the address. -/
import Derived.Test.YtkonldpliejgpaaNvT2
import Derived.Test.YtkonldpliejgpaaNvLW
import Derived.Test.YtkonldpliejgpaaNvRun
namespace Nv
open Go
theorem q_Longest (l : List TRoute) (a : Int) : -1 ≤ S.route_Longest l a ∧ S.route_Longest l a < (l.length : Int) ∧
    (S.route_Longest l a ≥ 0 → S.addr_Contains (l.getD (S.route_Longest l a).toNat default).fPrefix a = true) ∧
    ∀ j, j < l.length → S.addr_Contains (l.getD j default).fPrefix a = true → S.route_Longest l a ≥ 0 ∧ (l.getD j default).fPrefix.fLen ≤ (l.getD (S.route_Longest l a).toNat default).fPrefix.fLen := by
  obtain ⟨s, h1, h2⟩ := runT_all (g := S.route_Longest_l1 l a) (e := fun s1 => s1) (fun i (s : Int) => -1 ≤ s ∧ s < (i : Int) ∧ (s ≥ 0 → S.addr_Contains (l.getD s.toNat default).fPrefix a = true) ∧
    ∀ j, j < i → S.addr_Contains (l.getD j default).fPrefix a = true → s ≥ 0 ∧ (l.getD j default).fPrefix.fLen ≤ (l.getD s.toNat default).fPrefix.fLen) l.length 0 (-1) (fun j s _ _ hJ => by
      obtain ⟨g1, g2, g3, g4⟩ := hJ
      unfold S.route_Longest_l1 S.route_Longest_k1
      simp only [letS]
      cases hc : S.addr_Contains (l.getD j default).fPrefix a with
      | false =>
        refine ⟨s, rfl, g1, by omega, g3, fun k hk hk2 => ?_⟩
        rcases Nat.lt_or_ge k j with h | h
        · exact g4 k h hk2
        · have : k = j := by omega
          subst this; rw [hc] at hk2; cases hk2
      | true =>
        cases hb : (decide (s < 0) || decide ((l.getD j default).fPrefix.fLen > (l.getD s.toNat default).fPrefix.fLen)) with
        | true =>
          refine ⟨(j : Int), by simp, by omega, by omega, fun _ => by simpa using hc, fun k hk hk2 => ⟨by omega, ?_⟩⟩
          simp only [Int.toNat_natCast]
          rcases Nat.lt_or_ge k j with h | h
          · obtain ⟨q1, q2⟩ := g4 k h hk2
            simp only [Bool.or_eq_true, decide_eq_true_eq] at hb
            rcases hb with hb | hb <;> omega
          · have : k = j := by omega
            subst this; exact Int.le_refl _
        | false =>
          simp only [Bool.or_eq_false_iff, decide_eq_false_iff_not] at hb
          refine ⟨s, by simp, g1, by omega, g3, fun k hk hk2 => ?_⟩
          rcases Nat.lt_or_ge k j with h | h
          · exact g4 k h hk2
          · have : k = j := by omega
            subst this; exact ⟨by omega, by omega⟩) ⟨by omega, by omega, fun h => by omega, fun j hj => by omega⟩
  have e : S.route_Longest l a = s := h1
  rw [e]
  rw [Nat.zero_add] at h2
  exact h2
theorem q_Contains (p : TPrefix) (a : Int) : S.ref4_Contains p a = S.addr_Contains p a := rfl
theorem plain_RouteLongest (a0 : List TRoute) (a1 : Int) (w0 : a0.length ≤ maxLen ∧ ∀ y ∈ a0, W_TRoute y) (_w1 : (Lit.int .u32 a1).wf = true) : M.law14_RouteLongest a0 a1 = some true := by
  rw [s_law14_RouteLongest a0 a1 ⟨w0.1, fun x hx => LofW_TRoute (w0.2 x hx)⟩]
  unfold S.law14_RouteLongest
  simp only [letS]
  obtain ⟨h1, h2, h3, h4⟩ := q_Longest a0 a1
  cases S.law14_few a0 with
  | false => rfl
  | true =>
    cases S.ref15_Table a0 0 with
    | false => rfl
    | true =>
      have e2 : ∀ k : Int, runN (S.law14_RouteLongest_l1 a0 a1 k) (.inl () : Unit ⊕ Bool) 0 a0.length = bif anyN (fun i => S.ref4_Contains (a0.getD i default).fPrefix a1 && (decide (k < 0) || decide ((a0.getD i default).fPrefix.fLen > (a0.getD k.toNat default).fPrefix.fLen))) a0.length then .inr false else .inl () := fun k => runN_any _ _ _ _
      rw [e2]
      generalize S.route_Longest a0 a1 = k at *
      have e3 : anyN (fun i => S.ref4_Contains (a0.getD i default).fPrefix a1 && (decide (k < 0) || decide ((a0.getD i default).fPrefix.fLen > (a0.getD k.toNat default).fPrefix.fLen))) a0.length = false := by
        rw [anyN_false]
        intro j hj
        cases hc : S.ref4_Contains (a0.getD j default).fPrefix a1 with
        | false => rfl
        | true =>
          obtain ⟨q1, q2⟩ := h4 j hj hc
          simp only [Bool.true_and, Bool.or_eq_false_iff, decide_eq_false_iff_not]
          omega
      rw [e3]
      have b1 : decide (k < -1) = false := decide_eq_false (by omega)
      have b2 : decide (k ≥ (a0.length : Int)) = false := decide_eq_false (by omega)
      rw [b1, b2]
      by_cases h0 : k ≥ 0
      · have := h3 h0
        rw [q_Contains, this]
        simp [S.law14_sane]
      · simp [h0, S.law14_sane]
end Nv
