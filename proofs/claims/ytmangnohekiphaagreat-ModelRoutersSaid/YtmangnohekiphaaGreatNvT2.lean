/- The total form of the law. -/
import Derived.Test.YtmangnohekiphaaGreatNvT1
import Derived.KernelRfl
set_option maxRecDepth 100000
namespace Nv
open Go
theorem sane_true : S.law5_sane = true := by kernel_rfl
noncomputable def S.law5_ModelRouters (a0 : TRouter) : Bool :=
  letS (S.law5_Small a0) (fun r1 => letS (bif (!(!r1)) then S.model_CheckRouter a0 else default) (fun r2 => letS (bif (!(!r1)) then S.ref8_CheckRouter a0 else default) (fun r3 => letS (bif ((!(!r1)) && (r2 == r3)) then S.law5_sane else default) (fun r4 => (!r1) || ((r2 == r3) && r4)))))
theorem s_law5_ModelRouters (a0 : TRouter) (ha0 : L_TRouter a0) : M.law5_ModelRouters a0 = some (S.law5_ModelRouters a0) := by
  have hM := maxLen_eq
  unfold M.law5_ModelRouters S.law5_ModelRouters
  refine s_bind (s_law5_Small a0 ha0) (fun r1 her1 => ?_)
  refine s_bind (s_gc fun hg => (s_model_CheckRouter a0 ha0)) (fun r2 her2 => ?_)
  refine s_bind (s_gc fun hg => (s_ref8_CheckRouter a0 ha0)) (fun r3 her3 => ?_)
  refine s_bind (s_gc fun hg => (s_law5_sane)) (fun r4 her4 => ?_)
  rfl
end Nv
