/- Total forms of the mirrors. -/
import Derived.Test.YtpggnodnpjejlaaDoorNvD1
import Derived.Test.YtpggnodnpjejlaaDoorNvLibB
import Derived.Test.YtpggnodnpjejlaaDoorNvQ0
set_option maxRecDepth 100000
namespace Nv
open Go

noncomputable def S.law3_few (a0 : List TInterval) (a1 : List TInterval) : Bool :=
  (decide ((a0.length : Int) ≤ 30)) && (decide ((a1.length : Int) ≤ 30))
theorem s_law3_few (a0 : List TInterval) (a1 : List TInterval) (ha0 : a0.length ≤ maxLen) (ha1 : a1.length ≤ maxLen) : M.law3_few a0 a1 = some (S.law3_few a0 a1) := by
  have hM := maxLen_eq
  unfold M.law3_few S.law3_few
  rfl
noncomputable def S.keep_Intervals_l1 (a0 : List TInterval) (a1 : List TInterval) (i1 : Nat) : Option (Unit ⊕ Bool) :=
  bif !((((a0.getD i1 default).fLo) == ((a1.getD i1 default).fLo)) && ((((a0.getD i1 default).fHi) == ((a1.getD i1 default).fHi)) && true)) then (some (.inr false)) else none
theorem s_keep_Intervals_l1 (a0 : List TInterval) (a1 : List TInterval) (ha0 : a0.length ≤ maxLen) (ha1 : a1.length ≤ maxLen) (hlen : a0.length = a1.length) (i0 : Nat) : loopM (M.keep_Intervals_l1 a0 a1) (i0 : Int) = some (runN (S.keep_Intervals_l1 a0 a1) (.inl ()) i0 (a0.length - i0)) := by
  have hM := maxLen_eq
  have hni1 : a0.length ≤ maxLen := ha0
  refine loop_runN (n := a0.length) (fun i1 hi1 => ?_) (fun m hm => ?_) i0
  · unfold M.keep_Intervals_l1 S.keep_Intervals_l1
    try simp only [Int.toNat_natCast]
    refine s_then (dt (by omega)) ?_
    refine s_gd (all_c (dt (by omega)) (all_c (dt (by omega)) (all_c (dt (by omega)) (all_c (dt (by omega)) all_n)))) ?_
    refine s_ifN (fun hb2 => ?_) (fun hb2 => ?_)
    · exact s_out
    · exact s_up (by omega)
  · unfold M.keep_Intervals_l1
    try simp only [Int.toNat_natCast]
    exact s_else (decide_eq_false (by omega)) rfl
noncomputable def S.keep_Intervals (a0 : List TInterval) (a1 : List TInterval) : Bool :=
  bif (a0.length : Int) != (a1.length : Int) then false else (letS (runN (S.keep_Intervals_l1 a0 a1) (.inl ()) 0 a0.length) (fun y3 => Sum.elim (fun _ => true) (fun y5 => y5) y3))
theorem s_keep_Intervals (a0 : List TInterval) (a1 : List TInterval) (ha0 : a0.length ≤ maxLen) (ha1 : a1.length ≤ maxLen) : M.keep_Intervals a0 a1 = some (S.keep_Intervals a0 a1) := by
  have hM := maxLen_eq
  unfold M.keep_Intervals S.keep_Intervals
  refine s_if (fun hb1 => ?_) (fun hb1 => ?_)
  · rfl
  · refine s_bind (s_keep_Intervals_l1 a0 a1 ha0 ha1 (by simp at *; omega) 0) (fun y3 hey3 => ?_)
    refine s_elim (fun _ hl => ?_) (fun y5 hly5 => ?_)
    · rfl
    · rfl
noncomputable def S.interval_Has_1 (a0 : TInterval) (b0 : Int) : Bool :=
  (decide (a0.fLo ≤ b0)) && (decide (b0 ≤ a0.fHi))
theorem s_interval_Has_1 (a0 : TInterval) (b0 : Int)  : M.interval_Has_1 a0 b0 = some (S.interval_Has_1 a0 b0) := by
  have hM := maxLen_eq
  unfold M.interval_Has_1 S.interval_Has_1
  rfl
noncomputable def S.slices_IndexFunc_api_Interval_api_Interval__interval_Has_1_l1 (a0 : List TInterval) (a1c0 : Int) (i1 : Nat) : Option (Unit ⊕ Int) :=
  letS (S.interval_Has_1 (a0.getD i1 default) a1c0) (fun r3 => bif r3 then (some (.inr (i1 : Int))) else none)
theorem s_slices_IndexFunc_api_Interval_api_Interval__interval_Has_1_l1 (a0 : List TInterval) (a1c0 : Int) (ha0 : a0.length ≤ maxLen) (i0 : Nat) : loopM (M.slices_IndexFunc_api_Interval_api_Interval__interval_Has_1_l1 a0 a1c0) (i0 : Int) = some (runN (S.slices_IndexFunc_api_Interval_api_Interval__interval_Has_1_l1 a0 a1c0) (.inl ()) i0 (a0.length - i0)) := by
  have hM := maxLen_eq
  have hni1 : a0.length ≤ maxLen := ha0
  refine loop_runN (n := a0.length) (fun i1 hi1 => ?_) (fun m hm => ?_) i0
  · unfold M.slices_IndexFunc_api_Interval_api_Interval__interval_Has_1_l1 S.slices_IndexFunc_api_Interval_api_Interval__interval_Has_1_l1
    try simp only [Int.toNat_natCast]
    refine s_then (dt (by omega)) ?_
    refine s_bindN (s_interval_Has_1 (a0.getD i1 default) a1c0) (fun r3 her3 => ?_)
    refine s_gd (all_c (dt (by omega)) (all_c (dt (by omega)) all_n)) ?_
    refine s_ifN (fun hb1 => ?_) (fun hb1 => ?_)
    · exact s_out
    · exact s_up (by omega)
  · unfold M.slices_IndexFunc_api_Interval_api_Interval__interval_Has_1_l1
    try simp only [Int.toNat_natCast]
    exact s_else (decide_eq_false (by omega)) rfl
noncomputable def S.slices_IndexFunc_api_Interval_api_Interval__interval_Has_1 (a0 : List TInterval) (a1c0 : Int) : Int :=
  letS (runN (S.slices_IndexFunc_api_Interval_api_Interval__interval_Has_1_l1 a0 a1c0) (.inl ()) 0 a0.length) (fun y4 => Sum.elim (fun _ => -1) (fun y6 => y6) y4)
theorem s_slices_IndexFunc_api_Interval_api_Interval__interval_Has_1 (a0 : List TInterval) (a1c0 : Int) (ha0 : a0.length ≤ maxLen) : M.slices_IndexFunc_api_Interval_api_Interval__interval_Has_1 a0 a1c0 = some (S.slices_IndexFunc_api_Interval_api_Interval__interval_Has_1 a0 a1c0) := by
  have hM := maxLen_eq
  unfold M.slices_IndexFunc_api_Interval_api_Interval__interval_Has_1 S.slices_IndexFunc_api_Interval_api_Interval__interval_Has_1
  refine s_bind (s_slices_IndexFunc_api_Interval_api_Interval__interval_Has_1_l1 a0 a1c0 ha0 0) (fun y4 hey4 => ?_)
  refine s_elim (fun _ hl => ?_) (fun y6 hly6 => ?_)
  · rfl
  · rfl
noncomputable def S.slices_ContainsFunc_api_Interval_api_Interval__interval_Has_1 (a0 : List TInterval) (a1c0 : Int) : Bool :=
  letS (S.slices_IndexFunc_api_Interval_api_Interval__interval_Has_1 a0 a1c0) (fun r1 => decide (r1 ≥ 0))
theorem s_slices_ContainsFunc_api_Interval_api_Interval__interval_Has_1 (a0 : List TInterval) (a1c0 : Int) (ha0 : a0.length ≤ maxLen) : M.slices_ContainsFunc_api_Interval_api_Interval__interval_Has_1 a0 a1c0 = some (S.slices_ContainsFunc_api_Interval_api_Interval__interval_Has_1 a0 a1c0) := by
  have hM := maxLen_eq
  unfold M.slices_ContainsFunc_api_Interval_api_Interval__interval_Has_1 S.slices_ContainsFunc_api_Interval_api_Interval__interval_Has_1
  refine s_bind (s_slices_IndexFunc_api_Interval_api_Interval__interval_Has_1 a0 a1c0 ha0) (fun r1 her1 => ?_)
  rfl
noncomputable def S.interval_Has (a0 : List TInterval) (a1 : Int) : Bool :=
  letS (S.slices_ContainsFunc_api_Interval_api_Interval__interval_Has_1 a0 a1) (fun r1 => r1)
theorem s_interval_Has (a0 : List TInterval) (a1 : Int) (ha0 : a0.length ≤ maxLen) : M.interval_Has a0 a1 = some (S.interval_Has a0 a1) := by
  have hM := maxLen_eq
  unfold M.interval_Has S.interval_Has
  refine s_bind (s_slices_ContainsFunc_api_Interval_api_Interval__interval_Has_1 a0 a1 ha0) (fun r1 her1 => ?_)
  rfl
end Nv
