/- Has, as a plain fact. No condition. -/
import Derived.Test.YtpggnodnpjejlaaDoorNvI4
namespace Nv
open Go
def hasB (l : List TInterval) (x : Int) : Bool := anyN (fun k => decide ((l.getD k default).fLo ≤ x) && decide (x ≤ (l.getD k default).fHi)) l.length
theorem hasB_iff {l : List TInterval} {x : Int} : hasB l x = true ↔ imem l x := by
  unfold hasB
  rw [anyN_true]
  constructor
  · rintro ⟨j, h1, h2⟩
    simp only [Bool.and_eq_true, decide_eq_true_eq] at h2
    exact ⟨l.getD j default, by rw [List.getD_eq_getElem?_getD, List.getElem?_eq_getElem h1]; exact List.getElem_mem h1, h2⟩
  · rintro ⟨j, hj, h⟩
    obtain ⟨i, hi, rfl⟩ := List.getElem_of_mem hj
    exact ⟨i, hi, by simpa [hi] using h⟩
theorem hasB_congr {l m : List TInterval} {x : Int} (h : imem l x ↔ imem m x) : hasB l x = hasB m x := by
  rw [Bool.eq_iff_iff, hasB_iff, hasB_iff]; exact h
theorem q_Has (l : List TInterval) (x : Int) : S.interval_Has l x = hasB l x := by
  unfold S.interval_Has S.slices_ContainsFunc_api_Interval_api_Interval__interval_Has_1 S.slices_IndexFunc_api_Interval_api_Interval__interval_Has_1
  simp only [letS]
  have := idx_ge (fun k => decide ((l.getD k default).fLo ≤ x) && decide (x ≤ (l.getD k default).fHi)) l.length
  unfold hasB
  rw [← this]
  congr 2
end Nv
