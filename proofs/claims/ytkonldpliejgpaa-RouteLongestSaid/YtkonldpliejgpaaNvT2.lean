/- The total form of the law. -/
import Derived.Test.YtkonldpliejgpaaNvT1
import Derived.KernelRfl
import Derived.Test.YtkonldpliejgpaaNvS1
set_option maxRecDepth 100000
namespace Nv
open Go
def S.law14_sane : Bool := true
theorem s_law14_sane : M.law14_sane = some S.law14_sane := sane_some
theorem sane_true : S.law14_sane = true := rfl
noncomputable def S.law14_RouteLongest_l1 (a0 : List TRoute) (a1 : Int) (r3 : Int) (i5 : Nat) : Option (Unit ⊕ Bool) :=
  letS (S.ref4_Contains ((a0.getD i5 default).fPrefix) a1) (fun r7 => bif r7 && ((decide (r3 < 0)) || (decide ((((a0.getD i5 default).fPrefix).fLen) > (((a0.getD r3.toNat default).fPrefix).fLen)))) then (some (.inr false)) else none)
theorem s_law14_RouteLongest_l1 (a0 : List TRoute) (a1 : Int) (r3 : Int) (ha0 : LL L_TRoute a0) (hr3 : r3 < (a0.length : Int)) (i0 : Nat) : loopM (M.law14_RouteLongest_l1 a0 a1 r3) (i0 : Int) = some (runN (S.law14_RouteLongest_l1 a0 a1 r3) (.inl ()) i0 (a0.length - i0)) := by
  have hM := maxLen_eq
  have hni5 : a0.length ≤ maxLen := ha0.1
  refine loop_runN (n := a0.length) (fun i5 hi5 => ?_) (fun m hm => ?_) i0
  · unfold M.law14_RouteLongest_l1 S.law14_RouteLongest_l1
    try simp only [Int.toNat_natCast]
    refine s_then (dt (by omega)) ?_
    refine s_bindN (s_ref4_Contains ((a0.getD i5 default).fPrefix) a1) (fun r7 her7 => ?_)
    refine s_gd (all_c (dt (by omega)) (all_c (dt (by omega)) (all_c (s_guard fun hg => (dt (by first | omega | (simp; omega) | (simp at *; omega)))) (all_c (s_guard fun hg => (dt (by first | omega | (simp; omega) | (simp at *; omega)))) (all_c (s_guard fun hg => (dt (by first | omega | (simp; omega) | (simp at *; omega)))) (all_c (s_guard fun hg => (dt (by first | omega | (simp; omega) | (simp at *; omega)))) all_n)))))) ?_
    refine s_ifN (fun hb3 => ?_) (fun hb3 => ?_)
    · exact s_out
    · exact s_up (by omega)
  · unfold M.law14_RouteLongest_l1
    try simp only [Int.toNat_natCast]
    exact s_else (decide_eq_false (by omega)) rfl
noncomputable def S.law14_RouteLongest (a0 : List TRoute) (a1 : Int) : Bool :=
  letS (S.law14_few a0) (fun r1 => letS (bif (!(!r1)) then S.ref15_Table a0 0 else default) (fun r2 => bif (!r1) || (!r2) then true else (letS (S.route_Longest a0 a1) (fun r3 => letS (bif ((!((decide (r3 < (-1))) || (decide (r3 ≥ (a0.length : Int))))) && (decide (r3 ≥ 0))) then S.ref4_Contains ((a0.getD r3.toNat default).fPrefix) a1 else default) (fun r4 => bif ((decide (r3 < (-1))) || (decide (r3 ≥ (a0.length : Int)))) || ((decide (r3 ≥ 0)) && (!r4)) then false else (letS (runN (S.law14_RouteLongest_l1 a0 a1 r3) (.inl ()) 0 a0.length) (fun y8 => Sum.elim (fun _ => letS (S.law14_sane) (fun r11 => r11)) (fun y10 => y10) y8)))))))
theorem s_law14_RouteLongest (a0 : List TRoute) (a1 : Int) (ha0 : LL L_TRoute a0) : M.law14_RouteLongest a0 a1 = some (S.law14_RouteLongest a0 a1) := by
  have hM := maxLen_eq
  unfold M.law14_RouteLongest S.law14_RouteLongest
  refine s_bind (s_law14_few a0 ha0) (fun r1 her1 => ?_)
  refine s_bind (s_gc fun hg => (s_ref15_Table a0 0 ha0)) (fun r2 her2 => ?_)
  refine s_if (fun hb1 => ?_) (fun hb1 => ?_)
  · rfl
  · refine s_bind (s_route_Longest a0 a1 ha0) (fun r3 her3 => ?_)
    refine s_bind (s_gc fun hg => (s_ref4_Contains ((a0.getD r3.toNat default).fPrefix) a1)) (fun r4 her4 => ?_)
    refine s_gd (all_c (s_guard fun hg => (dt (by first | omega | (simp; omega) | (simp at *; omega)))) (all_c (s_guard fun hg => (dt (by first | omega | (simp; omega) | (simp at *; omega)))) all_n)) ?_
    refine s_if (fun hb2 => ?_) (fun hb2 => ?_)
    · rfl
    · refine s_bind (s_law14_RouteLongest_l1 a0 a1 r3 ha0 (by simp only [Bool.or_eq_false_iff, decide_eq_false_iff_not] at *; omega) 0) (fun y8 hey8 => ?_)
      refine s_elim (fun _ hl => ?_) (fun y10 hly10 => ?_)
      · refine s_bind (s_law14_sane) (fun r11 her11 => ?_)
        rfl
      · rfl
end Nv
