/- The total form of the law. -/
import Derived.Test.YtkonldpliejgpaaNvT1
import Derived.KernelRfl
import Derived.Test.YtkonldpliejgpaaNvS1
set_option maxRecDepth 100000
namespace Nv
open Go
def S.law14_sane : Bool := true
theorem s_law14_sane : M.law14_sane = some S.law14_sane := sane_some
theorem sane_true : S.law14_sane = true := rfl
noncomputable def S.law14_RouteValid (a0 : TRoute) : Bool :=
  letS (S.law14_few ([a0] : List TRoute)) (fun r1 => letS (bif (!(!r1)) then S.route_Valid a0 else default) (fun r2 => letS (bif (!(!r1)) then S.ref15_Valid a0 else default) (fun r3 => letS (bif ((!(!r1)) && (r2 == r3)) then S.law14_sane else default) (fun r4 => (!r1) || ((r2 == r3) && r4)))))
theorem s_law14_RouteValid (a0 : TRoute) (ha0 : L_TRoute a0) : M.law14_RouteValid a0 = some (S.law14_RouteValid a0) := by
  have hM := maxLen_eq
  unfold M.law14_RouteValid S.law14_RouteValid
  refine s_bind (s_law14_few ([a0] : List TRoute) ⟨by simp [maxLen_eq], by simp only [List.mem_cons, List.not_mem_nil, or_false, forall_eq_or_imp, forall_eq]; exact ha0⟩) (fun r1 her1 => ?_)
  refine s_bind (s_gc fun hg => (s_route_Valid a0 ha0)) (fun r2 her2 => ?_)
  refine s_bind (s_gc fun hg => (s_ref15_Valid a0 ha0)) (fun r3 her3 => ?_)
  refine s_bind (s_gc fun hg => (s_law14_sane)) (fun r4 her4 => ?_)
  rfl
end Nv
