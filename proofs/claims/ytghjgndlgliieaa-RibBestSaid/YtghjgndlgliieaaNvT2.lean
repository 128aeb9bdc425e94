/- The total form of the law. -/
import Derived.Test.YtghjgndlgliieaaNvT1
import Derived.KernelRfl
import Derived.Test.YtghjgndlgliieaaNvS1
set_option maxRecDepth 100000
namespace Nv
open Go
def S.law19_sane : Bool := true
theorem s_law19_sane : M.law19_sane = some S.law19_sane := sane_some
theorem sane_true : S.law19_sane = true := rfl
noncomputable def M.law19_RibBest_z (a0 : List TRoute) (r2 : List TRoute) : Option Bool :=
  (M.ref15_Table r2 0).bind fun r3 => bif !r3 then (some false) else ((loopM (M.law19_RibBest_l1 a0 r2) 0).bind fun y13 => Sum.elim (fun _ => (loopM (M.law19_RibBest_l3 a0 r2) 0).bind fun y19 => Sum.elim (fun _ => (M.law19_sane).bind fun r22 => some r22) (fun y21 => some y21) y19) (fun y15 => some y15) y13)
theorem z_law19_RibBest (a0 : List TRoute) : M.law19_RibBest a0 = ((M.law19_few a0).bind fun r1 => bif !r1 then (some true) else ((M.rib_Select a0).bind fun r2 => M.law19_RibBest_z a0 r2)) := rfl
noncomputable def S.law19_RibBest_l2 (a0 : List TRoute) (r2 : List TRoute) (i4 : Nat) (i6 : Nat) (s6 : Bool) : Bool ⊕ (Bool ⊕ Bool) :=
  letS (bif (!s6) then S.ref15_Same (a0.getD i6 default) (r2.getD i4 default) else default) (fun r8 => letS (bif (((((a0.getD i6 default).fPrefix).fAddr) == (((r2.getD i4 default).fPrefix).fAddr)) && (((((a0.getD i6 default).fPrefix).fLen) == (((r2.getD i4 default).fPrefix).fLen)) && true)) then S.ref20_Less (a0.getD i6 default) (r2.getD i4 default) else default) (fun r9 => bif (((((a0.getD i6 default).fPrefix).fAddr) == (((r2.getD i4 default).fPrefix).fAddr)) && (((((a0.getD i6 default).fPrefix).fLen) == (((r2.getD i4 default).fPrefix).fLen)) && true)) && r9 then (.inr (.inr false)) else (.inl (s6 || r8))))
theorem s_law19_RibBest_l2 (a0 : List TRoute) (r2 : List TRoute) (i4 : Nat) (ha0 : LL L_TRoute a0) (hr2 : LL L_TRoute r2) (hi4 : i4 < r2.length) (i0 : Nat) (s0 : Bool) : loopM (M.law19_RibBest_l2 a0 r2 (i4 : Int)) ((fun (i : Nat) (s6 : Bool) => (s6, (i : Int))) i0 s0) = some (runT (S.law19_RibBest_l2 a0 r2 i4) (fun s6 => .inl s6) i0 (a0.length - i0) s0) := by
  have hM := maxLen_eq
  have hni4 : r2.length ≤ maxLen := hr2.1
  have hni6 : a0.length ≤ maxLen := ha0.1
  refine loop_runT (n := a0.length) (mk := (fun (i : Nat) (s6 : Bool) => (s6, (i : Int)))) (fun i6 s6 hi6 => ?_) (fun m s6 hm => ?_) i0 s0
  · unfold M.law19_RibBest_l2 S.law19_RibBest_l2
    try simp only [Int.toNat_natCast]
    refine s_then (dt (by omega)) ?_
    refine s_bindT (s_gc fun hg => (s_ref15_Same (a0.getD i6 default) (r2.getD i4 default) (LL.getD ha0 L_TRoute.dflt i6) (LL.getD hr2 L_TRoute.dflt i4))) (fun r8 her8 => ?_)
    refine s_gd (all_c (s_guard fun hg => (dt (by first | omega | (simp; omega) | (simp at *; omega)))) (all_c (s_guard fun hg => (dt (by first | omega | (simp; omega) | (simp at *; omega)))) (all_c (s_guard fun hg => (dt (by first | omega | (simp; omega) | (simp at *; omega)))) (all_c (s_guard fun hg => (dt (by first | omega | (simp; omega) | (simp at *; omega)))) all_n)))) ?_
    refine s_bindT (s_gc fun hg => (s_ref20_Less (a0.getD i6 default) (r2.getD i4 default) (LL.getD ha0 L_TRoute.dflt i6) (LL.getD hr2 L_TRoute.dflt i4))) (fun r9 her9 => ?_)
    refine s_gd (all_c (dt (by omega)) (all_c (dt (by omega)) (all_c (dt (by omega)) (all_c (dt (by first | omega | (simp; omega) | (simp at *; omega))) (all_c (s_guard fun hg => (dt (by first | omega | (simp; omega) | (simp at *; omega)))) (all_c (s_guard fun hg => (dt (by first | omega | (simp; omega) | (simp at *; omega)))) (all_c (s_guard fun hg => (dt (by first | omega | (simp; omega) | (simp at *; omega)))) (all_c (s_guard fun hg => (dt (by first | omega | (simp; omega) | (simp at *; omega)))) all_n)))))))) ?_
    refine s_ifT (fun hb2 => ?_) (fun hb2 => ?_)
    · exact s_outT
    · rw [up_i64 (by omega)]
      rfl
  · unfold M.law19_RibBest_l2
    try simp only [Int.toNat_natCast]
    exact s_else (decide_eq_false (by omega)) rfl
noncomputable def S.law19_RibBest_l1 (a0 : List TRoute) (r2 : List TRoute) (i4 : Nat) : Option (Unit ⊕ Bool) :=
  letS (runT (S.law19_RibBest_l2 a0 r2 i4) (fun s6 => .inl s6) 0 a0.length (false)) (fun y10 => Sum.elim (fun g11 => bif !g11 then (some (.inr false)) else none) (fun y12 => some (.inr y12)) y10)
theorem s_law19_RibBest_l1 (a0 : List TRoute) (r2 : List TRoute) (ha0 : LL L_TRoute a0) (hr2 : LL L_TRoute r2) (i0 : Nat) : loopM (M.law19_RibBest_l1 a0 r2) (i0 : Int) = some (runN (S.law19_RibBest_l1 a0 r2) (.inl ()) i0 (r2.length - i0)) := by
  have hM := maxLen_eq
  have hni4 : r2.length ≤ maxLen := hr2.1
  refine loop_runN (n := r2.length) (fun i4 hi4 => ?_) (fun m hm => ?_) i0
  · unfold M.law19_RibBest_l1 S.law19_RibBest_l1
    try simp only [Int.toNat_natCast]
    refine s_then (dt (by omega)) ?_
    refine s_bindN (s_law19_RibBest_l2 a0 r2 i4 ha0 hr2 hi4 0 (false)) (fun y10 hey10 => ?_)
    refine s_elimN (fun g11 hlg11 => ?_) (fun y12 hly12 => ?_)
    · refine s_ifN (fun hb3 => ?_) (fun hb3 => ?_)
      · exact s_out
      · exact s_up (by omega)
    · exact s_out
  · unfold M.law19_RibBest_l1
    try simp only [Int.toNat_natCast]
    exact s_else (decide_eq_false (by omega)) rfl
noncomputable def S.law19_RibBest_l3 (a0 : List TRoute) (r2 : List TRoute) (i16 : Nat) : Option (Unit ⊕ Bool) :=
  letS (S.ref15_Find r2 ((a0.getD i16 default).fPrefix)) (fun r18 => bif decide (r18 < 0) then (some (.inr false)) else none)
theorem s_law19_RibBest_l3 (a0 : List TRoute) (r2 : List TRoute) (ha0 : LL L_TRoute a0) (hr2 : LL L_TRoute r2) (i0 : Nat) : loopM (M.law19_RibBest_l3 a0 r2) (i0 : Int) = some (runN (S.law19_RibBest_l3 a0 r2) (.inl ()) i0 (a0.length - i0)) := by
  have hM := maxLen_eq
  have hni16 : a0.length ≤ maxLen := ha0.1
  refine loop_runN (n := a0.length) (fun i16 hi16 => ?_) (fun m hm => ?_) i0
  · unfold M.law19_RibBest_l3 S.law19_RibBest_l3
    try simp only [Int.toNat_natCast]
    refine s_then (dt (by omega)) ?_
    refine s_bindN (s_ref15_Find r2 ((a0.getD i16 default).fPrefix) hr2) (fun r18 her18 => ?_)
    refine s_gd (all_c (dt (by omega)) (all_c (dt (by omega)) all_n)) ?_
    refine s_ifN (fun hb4 => ?_) (fun hb4 => ?_)
    · exact s_out
    · exact s_up (by omega)
  · unfold M.law19_RibBest_l3
    try simp only [Int.toNat_natCast]
    exact s_else (decide_eq_false (by omega)) rfl
noncomputable def S.law19_RibBest_z (a0 : List TRoute) (r2 : List TRoute) : Bool :=
  letS (S.ref15_Table r2 0) (fun r3 => bif !r3 then false else (letS (runN (S.law19_RibBest_l1 a0 r2) (.inl ()) 0 r2.length) (fun y13 => Sum.elim (fun _ => letS (runN (S.law19_RibBest_l3 a0 r2) (.inl ()) 0 a0.length) (fun y19 => Sum.elim (fun _ => letS (S.law19_sane) (fun r22 => r22)) (fun y21 => y21) y19)) (fun y15 => y15) y13)))
theorem s_law19_RibBest_z (a0 : List TRoute) (r2 : List TRoute) (ha0 : LL L_TRoute a0) (hr2 : LL L_TRoute r2) : M.law19_RibBest_z a0 r2 = some (S.law19_RibBest_z a0 r2) := by
  have hM := maxLen_eq
  unfold M.law19_RibBest_z S.law19_RibBest_z
  refine s_bind (s_ref15_Table r2 0 hr2) (fun r3 her3 => ?_)
  refine s_if (fun hb1 => ?_) (fun hb1 => ?_)
  · rfl
  · refine s_bind (s_law19_RibBest_l1 a0 r2 ha0 hr2 0) (fun y13 hey13 => ?_)
    refine s_elim (fun _ hl => ?_) (fun y15 hly15 => ?_)
    · refine s_bind (s_law19_RibBest_l3 a0 r2 ha0 hr2 0) (fun y19 hey19 => ?_)
      refine s_elim (fun _ hl => ?_) (fun y21 hly21 => ?_)
      · refine s_bind (s_law19_sane) (fun r22 her22 => ?_)
        rfl
      · rfl
    · rfl
end Nv
