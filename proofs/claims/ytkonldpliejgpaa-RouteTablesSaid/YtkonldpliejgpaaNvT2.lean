/- The total form of the law. -/
import Derived.Test.YtkonldpliejgpaaNvT1
import Derived.KernelRfl
import Derived.Test.YtkonldpliejgpaaNvS1
set_option maxRecDepth 100000
namespace Nv
open Go
def S.law14_sane : Bool := true
theorem s_law14_sane : M.law14_sane = some S.law14_sane := sane_some
theorem sane_true : S.law14_sane = true := rfl
noncomputable def S.law14_RouteTables (a0 : List TRoute) (a1 : Int) (a2 : TPrefix) (a3 : Int) : Bool :=
  letS (S.law14_few a0) (fun r1 => bif !r1 then true else (letS (S.route_Table a0 a1) (fun r2 => letS (S.ref15_Table a0 a1) (fun r3 => bif !(r2 == r3) then false else (letS (S.ref15_Table a0 0) (fun r4 => bif !r4 then (letS (S.law14_sane) (fun r5 => r5)) else (letS (S.route_Find a0 a2) (fun r6 => letS (S.ref15_Find a0 a2) (fun r7 => letS (bif (r6 == r7) then S.route_Longest a0 a3 else default) (fun r8 => letS (bif (r6 == r7) then S.ref15_Longest a0 a3 else default) (fun r9 => letS (bif ((r6 == r7) && (r8 == r9)) then S.law14_sane else default) (fun r10 => ((r6 == r7) && (r8 == r9)) && r10))))))))))))
theorem s_law14_RouteTables (a0 : List TRoute) (a1 : Int) (a2 : TPrefix) (a3 : Int) (ha0 : LL L_TRoute a0) : M.law14_RouteTables a0 a1 a2 a3 = some (S.law14_RouteTables a0 a1 a2 a3) := by
  have hM := maxLen_eq
  unfold M.law14_RouteTables S.law14_RouteTables
  refine s_bind (s_law14_few a0 ha0) (fun r1 her1 => ?_)
  refine s_if (fun hb1 => ?_) (fun hb1 => ?_)
  · rfl
  · refine s_bind (s_route_Table a0 a1 ha0) (fun r2 her2 => ?_)
    refine s_bind (s_ref15_Table a0 a1 ha0) (fun r3 her3 => ?_)
    refine s_if (fun hb2 => ?_) (fun hb2 => ?_)
    · rfl
    · refine s_bind (s_ref15_Table a0 0 ha0) (fun r4 her4 => ?_)
      refine s_if (fun hb3 => ?_) (fun hb3 => ?_)
      · refine s_bind (s_law14_sane) (fun r5 her5 => ?_)
        rfl
      · refine s_bind (s_route_Find a0 a2 ha0) (fun r6 her6 => ?_)
        refine s_bind (s_ref15_Find a0 a2 ha0) (fun r7 her7 => ?_)
        refine s_bind (s_gc fun hg => (s_route_Longest a0 a3 ha0)) (fun r8 her8 => ?_)
        refine s_bind (s_gc fun hg => (s_ref15_Longest a0 a3 ha0)) (fun r9 her9 => ?_)
        refine s_bind (s_gc fun hg => (s_law14_sane)) (fun r10 her10 => ?_)
        rfl
end Nv
