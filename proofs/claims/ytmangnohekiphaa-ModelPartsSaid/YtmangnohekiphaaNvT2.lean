/- The total form of the law. -/
import Derived.Test.YtmangnohekiphaaNvT1
import Derived.KernelRfl
set_option maxRecDepth 100000
namespace Nv
open Go
theorem sane_true : S.law5_sane = true := by kernel_rfl
noncomputable def S.law5_ModelParts_l1 (a0 : TNetwork) (i1 : Nat) : Option (Unit ⊕ Bool) :=
  letS (S.law5_Small (a0.fRouters.getD i1 default)) (fun r3 => bif !r3 then (some (.inr true)) else none)
theorem s_law5_ModelParts_l1 (a0 : TNetwork) (ha0 : L_TNetwork a0) (i0 : Nat) : loopM (M.law5_ModelParts_l1 a0) (i0 : Int) = some (runN (S.law5_ModelParts_l1 a0) (.inl ()) i0 (a0.fRouters.length - i0)) := by
  have hM := maxLen_eq
  have hni1 : a0.fRouters.length ≤ maxLen := (L_TNetwork.fRouters ha0).1
  refine loop_runN (n := a0.fRouters.length) (fun i1 hi1 => ?_) (fun m hm => ?_) i0
  · unfold M.law5_ModelParts_l1 S.law5_ModelParts_l1
    try simp only [Int.toNat_natCast]
    refine s_then (dt (by omega)) ?_
    refine s_bindN (s_law5_Small (a0.fRouters.getD i1 default) (LL.getD (L_TNetwork.fRouters ha0) L_TRouter.dflt i1)) (fun r3 her3 => ?_)
    refine s_gd (all_c (dt (by omega)) (all_c (dt (by omega)) all_n)) ?_
    refine s_ifN (fun hb2 => ?_) (fun hb2 => ?_)
    · exact s_out
    · exact s_up (by omega)
  · unfold M.law5_ModelParts_l1
    try simp only [Int.toNat_natCast]
    exact s_else (decide_eq_false (by omega)) rfl
noncomputable def S.law5_ModelParts (a0 : TNetwork) (a1 : Int) : Bool :=
  bif ((decide ((a0.fRouters.length : Int) > 10)) || (decide (a1 < 0))) || (decide (a1 ≥ (a0.fRouters.length : Int))) then true else (letS (runN (S.law5_ModelParts_l1 a0) (.inl ()) 0 a0.fRouters.length) (fun y4 => Sum.elim (fun _ => letS (S.model_Check a0) (fun r7 => bif r7 != 0 then (letS (S.law5_sane) (fun r8 => r8)) else (letS (S.model_CheckRouter (a0.fRouters.getD a1.toNat default)) (fun r9 => letS (bif (r9 == 0) then S.model_Check (⟨((a0.fRouters.drop a1.toNat).take (((wr .i64 (a1 + 1)).toNat) - a1.toNat))⟩ : TNetwork) else default) (fun r10 => letS (bif ((r9 == 0) && (r10 == 0)) then S.law5_sane else default) (fun r11 => ((r9 == 0) && (r10 == 0)) && r11)))))) (fun y6 => y6) y4))
theorem s_law5_ModelParts (a0 : TNetwork) (a1 : Int) (ha0 : L_TNetwork a0) : M.law5_ModelParts a0 a1 = some (S.law5_ModelParts a0 a1) := by
  have hM := maxLen_eq
  unfold M.law5_ModelParts S.law5_ModelParts
  refine s_if (fun hb1 => ?_) (fun hb1 => ?_)
  · rfl
  · refine s_bind (s_law5_ModelParts_l1 a0 ha0 0) (fun y4 hey4 => ?_)
    refine s_elim (fun _ hl => ?_) (fun y6 hly6 => ?_)
    · refine s_bind (s_model_Check a0 ha0) (fun r7 her7 => ?_)
      refine s_if (fun hb3 => ?_) (fun hb3 => ?_)
      · refine s_bind (s_law5_sane) (fun r8 her8 => ?_)
        rfl
      · refine s_bind (s_model_CheckRouter (a0.fRouters.getD a1.toNat default) (LL.getD (L_TNetwork.fRouters ha0) L_TRouter.dflt a1.toNat)) (fun r9 her9 => ?_)
        refine s_bind (s_gc fun hg => (s_model_Check (⟨((a0.fRouters.drop a1.toNat).take (((wr .i64 (a1 + 1)).toNat) - a1.toNat))⟩ : TNetwork) (LL.take (LL.drop (L_TNetwork.fRouters (x := a0) ha0) _) _))) (fun r10 her10 => ?_)
        refine s_bind (s_gc fun hg => (s_law5_sane)) (fun r11 her11 => ?_)
        have hb : 0 ≤ a1 ∧ a1 < (a0.fRouters.length : Int) := by simp at hb1; omega
        have hw : wr .i64 (a1 + 1) = a1 + 1 := by unfold wr; exact IntWalk.i64_in _ (by have := (L_TNetwork.fRouters ha0).1; omega)
        refine s_gd (all_c (dt (by first | omega | (simp; omega) | (simp at *; omega))) (all_c (dt (by first | omega | (simp; omega) | (simp at *; omega))) (all_c (s_guard fun hg => (dt (by first | omega | (simp; omega) | (simp at *; omega)))) (all_c (s_guard fun hg => (dt (by first | omega | (simp; omega) | (simp at *; omega)))) (all_c (s_guard fun hg => (dt (by first | omega | (simp; omega) | (simp at *; omega)))) (all_c (s_guard fun hg => (dt (by first | omega | (simp; omega) | (simp at *; omega)))) all_n)))))) ?_
        rfl
    · rfl
end Nv
