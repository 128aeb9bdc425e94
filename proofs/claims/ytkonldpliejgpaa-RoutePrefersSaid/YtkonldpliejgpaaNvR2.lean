/- Lists of valid routes of one protocol. -/
import Derived.Test.YtkonldpliejgpaaNvT1
import Derived.Test.YtkonldpliejgpaaNvRun
namespace Nv
open Go
theorem cond_none {α : Type} {b : Bool} {x : α} (h : (bif b then some x else none) = none) : b = false := by cases b <;> simp_all
theorem cond_some {α : Type} {b : Bool} {x y : α} (h : (bif b then some x else none) = some y) : b = true ∧ x = y := by cases b <;> simp_all
theorem one_all {l : List TRoute} (h : S.law14_One l = true) (i : Nat) (hi : i < l.length) : S.ref15_Valid (l.getD i default) = true ∧ (l.getD i default).fProto = (l.getD 0 default).fProto := by
  unfold S.law14_One at h
  simp only [letS] at h
  cases hf : S.law14_few l with
  | false => rw [hf] at h; simp at h
  | true =>
    rw [hf] at h
    simp only [Bool.not_true, cond_false] at h
    rcases runN_cases (S.law14_One_l1 l) (.inl ()) l.length 0 with ⟨j, _, _, h1, _⟩ | ⟨_, h2⟩
    · generalize runN (S.law14_One_l1 l) (.inl ()) 0 l.length = y at h h1
      unfold S.law14_One_l1 at h1
      simp only [letS] at h1
      obtain ⟨_, rfl⟩ := cond_some h1
      simp at h
    · have h3 := h2 i (Nat.zero_le _) (by omega)
      unfold S.law14_One_l1 at h3
      simp only [letS] at h3
      have h4 := cond_none h3
      simp only [Bool.or_eq_false_iff, Bool.not_eq_false', bne_eq_false_iff_eq] at h4
      exact ⟨h4.1, h4.2⟩
end Nv
