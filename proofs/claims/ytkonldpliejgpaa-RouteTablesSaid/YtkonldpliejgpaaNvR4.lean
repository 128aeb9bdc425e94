/- Comparing numbers. -/
import Derived.Test.YtkonldpliejgpaaNvT1
import Derived.Test.YtkonldpliejgpaaNvRun
namespace Nv
open Go
def cmpI (x y : Int) : Int := if x < y then -1 else if x > y then 1 else 0
theorem q_cmp (x y : Int) : S.cmp_Compare_int x y = cmpI x y := by
  unfold S.cmp_Compare_int cmpI S.cmp_isNaN_int
  simp only [letS]
  have e : ∀ z : Int, (z != z) = false := fun z => by simp
  rw [e, e]
  simp only [cond_false]
  by_cases h : x < y
  · simp [h]
  · by_cases h2 : x > y
    · simp [h2]
    · simp [h, h2]
theorem q_cmp32 (x y : Int) : S.cmp_Compare_uint32 x y = cmpI x y := q_cmp x y
theorem q_or (l : List Int) : S.cmp_Or_int l = fnz l := runN_fnz l
end Nv
