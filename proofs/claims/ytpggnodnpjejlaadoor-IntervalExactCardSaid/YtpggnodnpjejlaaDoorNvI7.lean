/- The comparison of two lists of intervals. No condition. -/
import Derived.Test.YtpggnodnpjejlaaDoorNvI4
namespace Nv
open Go
theorem q_keep {l m : List TInterval} : S.keep_Intervals l m = true ↔ l = m := by
  unfold S.keep_Intervals
  simp only [letS]
  rw [runN_anyE (g := S.keep_Intervals_l1 l m) (c := fun k => !(((l.getD k default).fLo == (m.getD k default).fLo) && (((l.getD k default).fHi == (m.getD k default).fHi) && true))) (v := .inr false) (fun k => rfl)]
  constructor
  · intro h
    cases h1 : ((l.length : Int) != (m.length : Int)) with
    | true => rw [h1] at h; cases h
    | false =>
      rw [h1] at h
      have hl : l.length = m.length := by have : (l.length : Int) = m.length := by simpa using h1
                                          omega
      simp only [cond_false] at h
      cases h2 : anyN (fun k => !(((l.getD k default).fLo == (m.getD k default).fLo) && (((l.getD k default).fHi == (m.getD k default).fHi) && true))) l.length with
      | true => rw [h2] at h; cases h
      | false =>
        refine ext_at hl fun i hi => ?_
        have h3 := anyN_false.1 h2 i hi
        simp only [Bool.not_eq_false', Bool.and_true, Bool.and_eq_true, beq_iff_eq] at h3
        exact iext h3.1 h3.2
  · rintro rfl
    rw [anyN_false.2 fun i _ => by simp]
    simp
theorem q_keep_rfl (l : List TInterval) : S.keep_Intervals l l = true := q_keep.2 rfl
end Nv
