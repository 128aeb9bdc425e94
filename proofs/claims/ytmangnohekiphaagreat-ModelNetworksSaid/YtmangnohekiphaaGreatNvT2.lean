/- The total form of the law. -/
import Derived.Test.YtmangnohekiphaaGreatNvT1
import Derived.KernelRfl
set_option maxRecDepth 100000
namespace Nv
open Go
theorem sane_true : S.law5_sane = true := by kernel_rfl
noncomputable def S.law5_ModelNetworks_l1 (a0 : TNetwork) (i1 : Nat) : Option (Unit ⊕ Bool) :=
  letS (S.law5_Small (a0.fRouters.getD i1 default)) (fun r3 => bif !r3 then (some (.inr true)) else none)
theorem s_law5_ModelNetworks_l1 (a0 : TNetwork) (ha0 : L_TNetwork a0) (i0 : Nat) : loopM (M.law5_ModelNetworks_l1 a0) (i0 : Int) = some (runN (S.law5_ModelNetworks_l1 a0) (.inl ()) i0 (a0.fRouters.length - i0)) := by
  have hM := maxLen_eq
  have hni1 : a0.fRouters.length ≤ maxLen := (L_TNetwork.fRouters ha0).1
  refine loop_runN (n := a0.fRouters.length) (fun i1 hi1 => ?_) (fun m hm => ?_) i0
  · unfold M.law5_ModelNetworks_l1 S.law5_ModelNetworks_l1
    try simp only [Int.toNat_natCast]
    refine s_then (dt (by omega)) ?_
    refine s_bindN (s_law5_Small (a0.fRouters.getD i1 default) (LL.getD (L_TNetwork.fRouters ha0) L_TRouter.dflt i1)) (fun r3 her3 => ?_)
    refine s_gd (all_c (dt (by omega)) (all_c (dt (by omega)) all_n)) ?_
    refine s_ifN (fun hb2 => ?_) (fun hb2 => ?_)
    · exact s_out
    · exact s_up (by omega)
  · unfold M.law5_ModelNetworks_l1
    try simp only [Int.toNat_natCast]
    exact s_else (decide_eq_false (by omega)) rfl
noncomputable def S.law5_ModelNetworks (a0 : TNetwork) : Bool :=
  bif decide ((a0.fRouters.length : Int) > 10) then true else (letS (runN (S.law5_ModelNetworks_l1 a0) (.inl ()) 0 a0.fRouters.length) (fun y4 => Sum.elim (fun _ => letS (S.model_Check a0) (fun r7 => letS (S.ref8_Check a0) (fun r8 => letS (bif (r7 == r8) then S.law5_sane else default) (fun r9 => (r7 == r8) && r9)))) (fun y6 => y6) y4))
theorem s_law5_ModelNetworks (a0 : TNetwork) (ha0 : L_TNetwork a0) : M.law5_ModelNetworks a0 = some (S.law5_ModelNetworks a0) := by
  have hM := maxLen_eq
  unfold M.law5_ModelNetworks S.law5_ModelNetworks
  refine s_if (fun hb1 => ?_) (fun hb1 => ?_)
  · rfl
  · refine s_bind (s_law5_ModelNetworks_l1 a0 ha0 0) (fun y4 hey4 => ?_)
    refine s_elim (fun _ hl => ?_) (fun y6 hly6 => ?_)
    · refine s_bind (s_model_Check a0 ha0) (fun r7 her7 => ?_)
      refine s_bind (s_ref8_Check a0 ha0) (fun r8 her8 => ?_)
      refine s_bind (s_gc fun hg => (s_law5_sane)) (fun r9 her9 => ?_)
      rfl
    · rfl
end Nv
