/- The plain law of RouteValid: Valid is the reference's. -/
import Derived.Test.YtkonldpliejgpaaNvT2
import Derived.Test.YtkonldpliejgpaaNvLW
import Derived.Test.YtkonldpliejgpaaNvR3
namespace Nv
open Go
theorem plain_RouteValid (a0 : TRoute) (w0 : W_TRoute a0) : M.law14_RouteValid a0 = some true := by
  rw [s_law14_RouteValid a0 (LofW_TRoute w0)]
  unfold S.law14_RouteValid
  simp only [letS, q_Valid]
  cases S.law14_few [a0] <;> simp [S.law14_sane]
end Nv
