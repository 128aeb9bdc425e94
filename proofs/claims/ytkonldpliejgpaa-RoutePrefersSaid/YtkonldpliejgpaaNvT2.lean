/- The total form of the law. -/
import Derived.Test.YtkonldpliejgpaaNvT1
import Derived.KernelRfl
import Derived.Test.YtkonldpliejgpaaNvS1
set_option maxRecDepth 100000
namespace Nv
open Go
def S.law14_sane : Bool := true
theorem s_law14_sane : M.law14_sane = some S.law14_sane := sane_some
theorem sane_true : S.law14_sane = true := rfl
noncomputable def S.law14_RoutePrefers (a0 : TRoute) (a1 : TRoute) : Bool :=
  letS (S.law14_One ([a0, a1] : List TRoute)) (fun r1 => bif !r1 then true else (letS (S.route_Prefer a0 a1) (fun r2 => letS (S.ref15_Prefer a0 a1) (fun r3 => letS (bif (r2 == r3) then S.law14_sane else default) (fun r4 => (r2 == r3) && r4)))))
theorem s_law14_RoutePrefers (a0 : TRoute) (a1 : TRoute) (ha0 : L_TRoute a0) (ha1 : L_TRoute a1) : M.law14_RoutePrefers a0 a1 = some (S.law14_RoutePrefers a0 a1) := by
  have hM := maxLen_eq
  unfold M.law14_RoutePrefers S.law14_RoutePrefers
  refine s_bind (s_law14_One ([a0, a1] : List TRoute) ⟨by simp [maxLen_eq], by simp only [List.mem_cons, List.not_mem_nil, or_false, forall_eq_or_imp, forall_eq]; exact ⟨ha0, ha1⟩⟩) (fun r1 her1 => ?_)
  refine s_if (fun hb1 => ?_) (fun hb1 => ?_)
  · rfl
  · refine s_bind (s_route_Prefer a0 a1 ha0 ha1) (fun r2 her2 => ?_)
    refine s_bind (s_ref15_Prefer a0 a1 ha0 ha1) (fun r3 her3 => ?_)
    refine s_bind (s_gc fun hg => (s_law14_sane)) (fun r4 her4 => ?_)
    rfl
end Nv
