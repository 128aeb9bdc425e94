/- The plain law of RouteTables: Table, Find and Longest are the reference's. -/
import Derived.Test.YtkonldpliejgpaaNvT2
import Derived.Test.YtkonldpliejgpaaNvLW
import Derived.Test.YtkonldpliejgpaaNvR3
namespace Nv
open Go
theorem q_Compare (a b : TPrefix) : decide (S.addr_Compare a b ≥ 0) = decide (S.ref4_Compare a b ≥ 0) := by
  unfold S.addr_Compare S.ref4_Compare
  simp only [letS, q_cmp, q_cmp32]
  unfold cmpI
  rcases Int.lt_trichotomy a.fAddr b.fAddr with h | h | h
  · simp [h]
  · rw [h]
    rcases Int.lt_trichotomy a.fLen b.fLen with g | g | g
    · simp [g]
    · simp [g]
    · have g1 : ¬ a.fLen < b.fLen := by omega
      have g2 : (a.fLen == b.fLen) = false := by simp; omega
      simp [g, g1, g2]
  · have h1 : ¬ a.fAddr < b.fAddr := by omega
    have h2 : (a.fAddr == b.fAddr) = false := by simp; omega
    simp [h, h1, h2]
theorem q_Table (l : List TRoute) (p : Int) : S.route_Table l p = S.ref15_Table l p := by
  unfold S.route_Table S.ref15_Table
  simp only [letS]
  rw [show runN (S.route_Table_l1 l p) (.inl () : Unit ⊕ Bool) 0 l.length = runN (S.ref15_Table_l1 l p) (.inl ()) 0 l.length from runN_congr0 fun j _ => ?_]
  unfold S.route_Table_l1 S.ref15_Table_l1
  simp only [letS, q_Valid]
  cases S.ref15_Valid (l.getD j default) <;> cases ((p != 0) && ((l.getD j default).fProto != p)) <;> cases h2 : decide ((j : Int) > 0) <;> simp [q_Compare]
theorem q_Find (l : List TRoute) (p : TPrefix) : S.route_Find l p = S.ref15_Find l p := rfl
theorem q_Longest (l : List TRoute) (a : Int) : S.route_Longest l a = S.ref15_Longest l a := rfl
theorem plain_RouteTables (a0 : List TRoute) (a1 : Int) (a2 : TPrefix) (a3 : Int) (w0 : a0.length ≤ maxLen ∧ ∀ y ∈ a0, W_TRoute y) (_w1 : (Lit.int .i64 a1).wf = true) (_w2 : W_TPrefix a2) (_w3 : (Lit.int .u32 a3).wf = true) : M.law14_RouteTables a0 a1 a2 a3 = some true := by
  rw [s_law14_RouteTables a0 a1 a2 a3 ⟨w0.1, fun x hx => LofW_TRoute (w0.2 x hx)⟩]
  unfold S.law14_RouteTables
  simp only [letS, q_Table, q_Find, q_Longest]
  cases S.law14_few a0 <;> cases S.ref15_Table a0 0 <;> simp [S.law14_sane]
end Nv
