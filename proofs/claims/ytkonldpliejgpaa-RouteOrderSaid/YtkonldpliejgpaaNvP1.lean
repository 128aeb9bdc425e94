/- The plain law of RouteOrder: Prefer is a weak order on the valid routes of one protocol. -/
import Derived.Test.YtkonldpliejgpaaNvT2
import Derived.Test.YtkonldpliejgpaaNvLW
import Derived.Test.YtkonldpliejgpaaNvR1
import Derived.Test.YtkonldpliejgpaaNvR2
namespace Nv
open Go
theorem wr_neg {x : Int} (h : x = -1 ∨ x = 0 ∨ x = 1) : wr .i64 (0 - x) = -x := by rw [wr_i64 (by omega)]; omega
theorem plain_RouteOrder (a0 a1 a2 : TRoute) (w0 : W_TRoute a0) (w1 : W_TRoute a1) (w2 : W_TRoute a2) : M.law14_RouteOrder a0 a1 a2 = some true := by
  rw [s_law14_RouteOrder a0 a1 a2 (LofW_TRoute w0) (LofW_TRoute w1) (LofW_TRoute w2)]
  unfold S.law14_RouteOrder
  simp only [letS]
  cases ho : S.law14_One [a0, a1, a2] with
  | false => rfl
  | true =>
    have p1 : a1.fProto = a0.fProto := (one_all ho 1 (by simp)).2
    have p2 : a2.fProto = a0.fProto := (one_all ho 2 (by simp)).2
    rw [q_Prefer (a := a0) (b := a1) p1.symm, q_Prefer (a := a1) (b := a2) (p1.trans p2.symm), q_Prefer (a := a0) (b := a2) p2.symm, q_Prefer (a := a1) (b := a0) p1, q_Prefer (a := a0) (b := a0) rfl]
    have l0 := pkey_len a0
    have l1 := pkey_len a1
    have l2 := pkey_len a2
    have haa := cmpL_self (pkey a0)
    have hab := cmpL_swap (pkey a0) (pkey a1)
    have hbc := cmpL_swap (pkey a1) (pkey a2)
    have hac := cmpL_swap (pkey a0) (pkey a2)
    have t1 := cmpL_trans (pkey a0) (pkey a1) (pkey a2) (by omega) (by omega)
    have t2 := cmpL_trans (pkey a2) (pkey a1) (pkey a0) (by omega) (by omega)
    have t3 := cmpL_trans (pkey a1) (pkey a0) (pkey a2) (by omega) (by omega)
    have t4 := cmpL_trans (pkey a2) (pkey a0) (pkey a1) (by omega) (by omega)
    have r1 := cmpL_range (pkey a0) (pkey a1)
    have r2 := cmpL_range (pkey a1) (pkey a2)
    have r3 := cmpL_range (pkey a0) (pkey a2)
    generalize cmpL (pkey a0) (pkey a0) = aa at *
    generalize cmpL (pkey a0) (pkey a1) = ab at *
    generalize cmpL (pkey a1) (pkey a0) = ba at *
    generalize cmpL (pkey a1) (pkey a2) = bc at *
    generalize cmpL (pkey a2) (pkey a1) = cb at *
    generalize cmpL (pkey a0) (pkey a2) = ac at *
    generalize cmpL (pkey a2) (pkey a0) = ca at *
    subst haa; subst hab; subst hbc; subst hac
    rw [wr_neg r1]
    rcases r1 with rfl | rfl | rfl <;> rcases r2 with rfl | rfl | rfl <;> rcases r3 with rfl | rfl | rfl <;> simp [S.law14_sane] at * <;> omega
end Nv
