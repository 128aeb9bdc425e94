/- The total form of the law. -/
import Derived.Test.YtghjgndlgliieaaNvT1
import Derived.KernelRfl
import Derived.Test.YtghjgndlgliieaaNvS1
set_option maxRecDepth 100000
namespace Nv
open Go
def S.law19_sane : Bool := true
theorem s_law19_sane : M.law19_sane = some S.law19_sane := sane_some
theorem sane_true : S.law19_sane = true := rfl
noncomputable def S.law19_RibOrder (a0 : TRoute) (a1 : TRoute) (a2 : TRoute) : Bool :=
  letS (S.law19_few ([a0, a1, a2] : List TRoute)) (fun r1 => bif !r1 then true else (letS (S.rib_Less a0 a0) (fun r2 => letS (bif (!r2) then S.rib_Less a0 a1 else default) (fun r3 => letS (bif ((!r2) && r3) then S.rib_Less a1 a0 else default) (fun r4 => bif r2 || (r3 && r4) then false else (letS (S.rib_Less a0 a1) (fun r5 => letS (bif (!(!r5)) then S.rib_Less a1 a2 else default) (fun r6 => letS (bif (!((!r5) || (!r6))) then S.rib_Less a0 a2 else default) (fun r7 => letS (bif (((!r5) || (!r6)) || r7) then S.rib_Less a0 a1 else default) (fun r8 => letS (bif ((((!r5) || (!r6)) || r7) && !r8) then S.rib_Less a1 a2 else default) (fun r9 => letS (bif ((((!r5) || (!r6)) || r7) && !(r8 || r9)) then S.rib_Less a0 a2 else default) (fun r10 => letS (bif ((((!r5) || (!r6)) || r7) && ((r8 || r9) || (!r10))) then S.law19_sane else default) (fun r11 => ((((!r5) || (!r6)) || r7) && ((r8 || r9) || (!r10))) && r11)))))))))))))
theorem s_law19_RibOrder (a0 : TRoute) (a1 : TRoute) (a2 : TRoute) (ha0 : L_TRoute a0) (ha1 : L_TRoute a1) (ha2 : L_TRoute a2) : M.law19_RibOrder a0 a1 a2 = some (S.law19_RibOrder a0 a1 a2) := by
  have hM := maxLen_eq
  unfold M.law19_RibOrder S.law19_RibOrder
  refine s_bind (s_law19_few ([a0, a1, a2] : List TRoute) ⟨by simp [maxLen_eq], by simp only [List.mem_cons, List.not_mem_nil, or_false, forall_eq_or_imp, forall_eq]; exact ⟨ha0, ha1, ha2⟩⟩) (fun r1 her1 => ?_)
  refine s_if (fun hb1 => ?_) (fun hb1 => ?_)
  · rfl
  · refine s_bind (s_rib_Less a0 a0 ha0 ha0) (fun r2 her2 => ?_)
    refine s_bind (s_gc fun hg => (s_rib_Less a0 a1 ha0 ha1)) (fun r3 her3 => ?_)
    refine s_bind (s_gc fun hg => (s_rib_Less a1 a0 ha1 ha0)) (fun r4 her4 => ?_)
    refine s_if (fun hb2 => ?_) (fun hb2 => ?_)
    · rfl
    · refine s_bind (s_rib_Less a0 a1 ha0 ha1) (fun r5 her5 => ?_)
      refine s_bind (s_gc fun hg => (s_rib_Less a1 a2 ha1 ha2)) (fun r6 her6 => ?_)
      refine s_bind (s_gc fun hg => (s_rib_Less a0 a2 ha0 ha2)) (fun r7 her7 => ?_)
      refine s_bind (s_gc fun hg => (s_rib_Less a0 a1 ha0 ha1)) (fun r8 her8 => ?_)
      refine s_bind (s_gc fun hg => (s_rib_Less a1 a2 ha1 ha2)) (fun r9 her9 => ?_)
      refine s_bind (s_gc fun hg => (s_rib_Less a0 a2 ha0 ha2)) (fun r10 her10 => ?_)
      refine s_bind (s_gc fun hg => (s_law19_sane)) (fun r11 her11 => ?_)
      rfl
end Nv
