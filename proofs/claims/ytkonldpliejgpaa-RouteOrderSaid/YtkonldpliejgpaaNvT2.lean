/- The total form of the law. -/
import Derived.Test.YtkonldpliejgpaaNvT1
import Derived.KernelRfl
import Derived.Test.YtkonldpliejgpaaNvS1
set_option maxRecDepth 100000
namespace Nv
open Go
def S.law14_sane : Bool := true
theorem s_law14_sane : M.law14_sane = some S.law14_sane := sane_some
theorem sane_true : S.law14_sane = true := rfl
noncomputable def S.law14_RouteOrder (a0 : TRoute) (a1 : TRoute) (a2 : TRoute) : Bool :=
  letS (S.law14_One ([a0, a1, a2] : List TRoute)) (fun r1 => bif !r1 then true else (letS (S.route_Prefer a0 a1) (fun r2 => letS (S.route_Prefer a1 a2) (fun r3 => letS (S.route_Prefer a0 a2) (fun r4 => letS (S.route_Prefer a1 a0) (fun r5 => letS (bif (!(r5 != (wr .i64 (0 - r2)))) then S.route_Prefer a0 a0 else default) (fun r6 => bif (r5 != (wr .i64 (0 - r2))) || (r6 != 0) then false else (letS (bif ((((decide (r2 > 0)) || (decide (r3 > 0))) || (decide (r4 ≤ 0))) && ((r2 != 0) || (r4 == r3))) then S.law14_sane else default) (fun r7 => ((((decide (r2 > 0)) || (decide (r3 > 0))) || (decide (r4 ≤ 0))) && ((r2 != 0) || (r4 == r3))) && r7)))))))))
theorem s_law14_RouteOrder (a0 : TRoute) (a1 : TRoute) (a2 : TRoute) (ha0 : L_TRoute a0) (ha1 : L_TRoute a1) (ha2 : L_TRoute a2) : M.law14_RouteOrder a0 a1 a2 = some (S.law14_RouteOrder a0 a1 a2) := by
  have hM := maxLen_eq
  unfold M.law14_RouteOrder S.law14_RouteOrder
  refine s_bind (s_law14_One ([a0, a1, a2] : List TRoute) ⟨by simp [maxLen_eq], by simp only [List.mem_cons, List.not_mem_nil, or_false, forall_eq_or_imp, forall_eq]; exact ⟨ha0, ha1, ha2⟩⟩) (fun r1 her1 => ?_)
  refine s_if (fun hb1 => ?_) (fun hb1 => ?_)
  · rfl
  · refine s_bind (s_route_Prefer a0 a1 ha0 ha1) (fun r2 her2 => ?_)
    refine s_bind (s_route_Prefer a1 a2 ha1 ha2) (fun r3 her3 => ?_)
    refine s_bind (s_route_Prefer a0 a2 ha0 ha2) (fun r4 her4 => ?_)
    refine s_bind (s_route_Prefer a1 a0 ha1 ha0) (fun r5 her5 => ?_)
    refine s_bind (s_gc fun hg => (s_route_Prefer a0 a0 ha0 ha0)) (fun r6 her6 => ?_)
    refine s_if (fun hb2 => ?_) (fun hb2 => ?_)
    · rfl
    · refine s_bind (s_gc fun hg => (s_law14_sane)) (fun r7 her7 => ?_)
      rfl
end Nv
