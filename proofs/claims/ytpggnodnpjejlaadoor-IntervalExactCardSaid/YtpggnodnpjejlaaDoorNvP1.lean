/- The plain law of IntervalExact: the operations return the documented results. -/
import Derived.Test.YtpggnodnpjejlaaDoorNvIr
import Derived.Test.YtpggnodnpjejlaaDoorNvI7
import Derived.Test.YtpggnodnpjejlaaDoorNvS1
import Derived.Test.YtpggnodnpjejlaaDoorNvV1
namespace Nv
open Go
theorem u32_of {a : List TInterval} (h : ∀ y ∈ a, W_TInterval y) : ∀ t ∈ a, U32 t := fun t ht => by
  have h1 := wf_u32 (h t ht).1
  have h2 := wf_u32 (h t ht).2
  exact ⟨h1.1, h1.2, h2.1, h2.2⟩
theorem plain_IntervalExact (a0 a1 : List TInterval) (w0 : a0.length ≤ maxLen ∧ a0.length * 8 ≤ reachBytes ∧ ∀ y ∈ a0, W_TInterval y) (w1 : a1.length ≤ maxLen ∧ a1.length * 8 ≤ reachBytes ∧ ∀ y ∈ a1, W_TInterval y) : M.law3_IntervalExact a0 a1 = some true := by
  have hM := maxLen_eq
  have ua := u32_of w0.2.2
  have ub := u32_of w1.2.2
  unfold M.law3_IntervalExact
  rw [s_law3_few a0 a1 w0.1 w1.1, Option.bind_some]
  cases hf : S.law3_few a0 a1 with
  | false => rfl
  | true =>
    have h30 : a0.length ≤ 30 ∧ a1.length ≤ 30 := by
      unfold S.law3_few at hf
      simp only [Bool.and_eq_true, decide_eq_true_eq] at hf
      omega
    have l0 := nrm_len a0
    have l1 := nrm_len a1
    have lu := nrm_len (a0 ++ a1)
    rw [List.length_append] at lu
    have li := isect_len _ (nrm a0) (nrm a1) (Nat.le_refl _)
    have lc0 := compl_len (nrm a0) 0
    have lc1 := compl_len (nrm a1) 0
    have lc2 := nrm_len (compl 0 (nrm a1))
    have ls := isect_len _ (nrm a0) (nrm (compl 0 (nrm a1))) (Nat.le_refl _)
    simp only [Bool.not_true, cond_false]
    rw [union_eq (by omega) (by omega) ua ub, Option.bind_some, runion_eq (by omega) (by omega) ua ub, Option.bind_some, s_keep_Intervals _ _ (by omega) (by omega), q_keep_rfl, Option.bind_some]
    simp only [gc, cond_true, Bool.true_and]
    rw [inter_eq (by omega) (by omega) ua ub, Option.bind_some, rinter_eq (by omega) (by omega) ua ub, Option.bind_some, s_keep_Intervals _ _ (by omega) (by omega), q_keep_rfl, Option.bind_some]
    simp only [cond_true, Bool.true_and]
    rw [subt_eq (by omega) (by omega) ua ub, Option.bind_some, rsubt_eq (by omega) (by omega) ua ub, Option.bind_some, s_keep_Intervals _ _ (by omega) (by omega), q_keep_rfl, Option.bind_some]
    simp only [cond_true, Bool.true_and]
    rw [compl_eq (by omega) ua, Option.bind_some, rcompl_eq (by omega) ua, Option.bind_some, s_keep_Intervals _ _ (by omega) (by omega), q_keep_rfl, Option.bind_some]
    simp only [cond_true, Bool.true_and]
    rw [size_eq (by omega) ua, Option.bind_some, rsize_eq (by omega) ua, Option.bind_some]
    simp only [beq_self_eq_true, cond_true]
    rw [sane_some, Option.bind_some]
    rfl
end Nv
