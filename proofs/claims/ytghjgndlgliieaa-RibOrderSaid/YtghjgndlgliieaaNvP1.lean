/- The plain law of RibOrder: Less is a strict weak order. -/
import Derived.Test.YtghjgndlgliieaaNvT2
import Derived.Test.YtghjgndlgliieaaNvLW
import Derived.Test.YtghjgndlgliieaaNvR1
namespace Nv
open Go

def rkey (x : TRoute) : List Int := x.fAdmin :: x.fProto :: pkey x
theorem rkey_len (x : TRoute) : (rkey x).length = 8 := by simp [rkey, pkey_len]
theorem q_Less (a b : TRoute) : S.rib_Less a b = decide (cmpL (rkey a) (rkey b) < 0) := by
  unfold S.rib_Less rkey
  simp only [letS, q_cmp, q_or, cmpL, fnz]
  congr 1
  cases h1 : cmpI a.fAdmin b.fAdmin != 0 with
  | true => rfl
  | false =>
    cases h2 : cmpI a.fProto b.fProto != 0 with
    | true => rfl
    | false =>
      have hp := cmpI_zero (x := a.fProto) (y := b.fProto) (by simpa using h2)
      rw [q_Prefer hp]
      simp only [cond_false]
      rw [bif_self _ rfl]
theorem plain_RibOrder (a0 a1 a2 : TRoute) (w0 : W_TRoute a0) (w1 : W_TRoute a1) (w2 : W_TRoute a2) : M.law19_RibOrder a0 a1 a2 = some true := by
  rw [s_law19_RibOrder a0 a1 a2 (LofW_TRoute w0) (LofW_TRoute w1) (LofW_TRoute w2)]
  unfold S.law19_RibOrder
  simp only [letS, q_Less]
  have l0 := rkey_len a0
  have l1 := rkey_len a1
  have l2 := rkey_len a2
  have haa := cmpL_self (rkey a0)
  have hab := cmpL_swap (rkey a0) (rkey a1)
  have hbc := cmpL_swap (rkey a1) (rkey a2)
  have hac := cmpL_swap (rkey a0) (rkey a2)
  have t1 := cmpL_trans (rkey a0) (rkey a1) (rkey a2) (by omega) (by omega)
  have t2 := cmpL_trans (rkey a2) (rkey a1) (rkey a0) (by omega) (by omega)
  have t3 := cmpL_trans (rkey a1) (rkey a2) (rkey a0) (by omega) (by omega)
  have t4 := cmpL_trans (rkey a2) (rkey a0) (rkey a1) (by omega) (by omega)
  generalize cmpL (rkey a0) (rkey a0) = aa at *
  generalize cmpL (rkey a0) (rkey a1) = ab at *
  generalize cmpL (rkey a1) (rkey a0) = ba at *
  generalize cmpL (rkey a1) (rkey a2) = bc at *
  generalize cmpL (rkey a2) (rkey a1) = cb at *
  generalize cmpL (rkey a0) (rkey a2) = ac at *
  generalize cmpL (rkey a2) (rkey a0) = ca at *
  subst haa; subst hab; subst hbc; subst hac
  cases S.law19_few [a0, a1, a2] with
  | false => rfl
  | true =>
    by_cases c1 : ab < 0 <;> by_cases c2 : bc < 0 <;> by_cases c3 : ac < 0 <;> by_cases c4 : -ab < 0 <;> simp [c1, c2, c3, c4, S.law19_sane] <;> omega
end Nv
