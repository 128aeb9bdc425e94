/- The plain law of IntervalAlgebra: the laws of De Morgan, double complement, disjoint parts. -/
import Derived.Test.YtpggnodnpjejlaaDoorNvIs
import Derived.Test.YtpggnodnpjejlaaDoorNvI7
import Derived.Test.YtpggnodnpjejlaaDoorNvS1
import Derived.Test.YtpggnodnpjejlaaDoorNvV1
namespace Nv
open Go
theorem u32_of {a : List TInterval} (h : ∀ y ∈ a, W_TInterval y) : ∀ t ∈ a, U32 t := fun t ht => by
  have h1 := wf_u32 (h t ht).1
  have h2 := wf_u32 (h t ht).2
  exact ⟨h1.1, h1.2, h2.1, h2.2⟩
theorem plain_IntervalAlgebra (a0 a1 : List TInterval) (w0 : a0.length ≤ maxLen ∧ a0.length * 8 ≤ reachBytes ∧ ∀ y ∈ a0, W_TInterval y) (w1 : a1.length ≤ maxLen ∧ a1.length * 8 ≤ reachBytes ∧ ∀ y ∈ a1, W_TInterval y) : M.law3_IntervalAlgebra a0 a1 = some true := by
  have hM := maxLen_eq
  have ua := u32_of w0.2.2
  have ub := u32_of w1.2.2
  unfold M.law3_IntervalAlgebra
  rw [s_law3_few a0 a1 w0.1 w1.1, Option.bind_some]
  cases hf : S.law3_few a0 a1 with
  | false => rfl
  | true =>
    have h30 : a0.length ≤ 30 ∧ a1.length ≤ 30 := by
      unfold S.law3_few at hf
      simp only [Bool.and_eq_true, decide_eq_true_eq] at hf
      omega
    have l0 := nrm_len a0
    have l1 := nrm_len a1
    have lu := nrm_len (a0 ++ a1)
    rw [List.length_append] at lu
    have li := isect_len _ (nrm a0) (nrm a1) (Nat.le_refl _)
    have lc0 := compl_len (nrm a0) 0
    have lc1 := compl_len (nrm a1) 0
    have lc2 := nrm_len (compl 0 (nrm a1))
    have ls := isect_len _ (nrm a0) (nrm (compl 0 (nrm a1))) (Nat.le_refl _)
    have n0 := nrm_u32 ua
    have n1 := nrm_u32 ub
    have nU := nrm_u32 (u32_append ua ub)
    have c0 := compl_u32 (nrm_ok a0).1 n0
    have c1 := compl_u32 (nrm_ok a1).1 n1
    have nI := isect_u32 n0 n1
    have nS := isect_u32 n0 (nrm_u32 c1)
    have hU := uni_is a0 a1
    have hI := int_is a0 a1
    have hC0 := com_is ua
    have hC1 := com_is ub
    have hS := sub_is ua ub
    have e1 : compl 0 (nrm (nrm (a0 ++ a1))) = isect (nrm (compl 0 (nrm a0))) (nrm (compl 0 (nrm a1))) := by
      have h1 := com_is nU
      have h2 := int_is (compl 0 (nrm a0)) (compl 0 (nrm a1))
      refine can_ext h1.1 h2.1 fun x => ?_
      rw [h1.2, h2.2, hU.2, hC0.2, hC1.2]
      constructor
      · rintro ⟨q1, q2, q3⟩
        exact ⟨⟨q1, q2, fun h => q3 (.inl h)⟩, q1, q2, fun h => q3 (.inr h)⟩
      · rintro ⟨⟨q1, q2, q3⟩, _, _, q4⟩
        exact ⟨q1, q2, fun h => h.elim q3 q4⟩
    have e2 : compl 0 (nrm (compl 0 (nrm a0))) = nrm a0 := by
      have h1 := com_is c0
      refine can_ext h1.1 (nrm_ok a0).1 fun x => ?_
      rw [h1.2, hC0.2, (nrm_ok a0).2]
      constructor
      · rintro ⟨q1, q2, q3⟩
        exact Classical.byContradiction fun h => q3 ⟨q1, q2, h⟩
      · intro h
        have := imem_u32 ua h
        exact ⟨this.1, this.2, fun q => q.2.2 h⟩
    have e3 : nrm (isect (nrm a0) (nrm a1) ++ isect (nrm a0) (nrm (compl 0 (nrm a1)))) = nrm a0 := by
      have h1 := uni_is (isect (nrm a0) (nrm a1)) (isect (nrm a0) (nrm (compl 0 (nrm a1))))
      refine can_ext h1.1 (nrm_ok a0).1 fun x => ?_
      rw [h1.2, hI.2, hS.2, (nrm_ok a0).2]
      constructor
      · rintro (q | q) <;> exact q.1
      · intro h
        by_cases hb : imem a1 x
        · exact .inl ⟨h, hb⟩
        · exact .inr ⟨h, hb⟩
    have e4 : isect (nrm (isect (nrm a0) (nrm a1))) (nrm (isect (nrm a0) (nrm (compl 0 (nrm a1))))) = [] := by
      have h1 := int_is (isect (nrm a0) (nrm a1)) (isect (nrm a0) (nrm (compl 0 (nrm a1))))
      refine can_ext h1.1 can_nil fun x => ?_
      rw [h1.2, hI.2, hS.2]
      exact ⟨fun h => absurd h.1.2 h.2.2, fun h => absurd h (imem_nil x)⟩
    have lC : (compl 0 (nrm (nrm (a0 ++ a1)))).length ≤ 1000 := by
      have := compl_len (nrm (nrm (a0 ++ a1))) 0
      have := nrm_len (nrm (a0 ++ a1))
      omega
    simp only [Bool.not_true, cond_false]
    rw [norm_eq (by omega) ua, Option.bind_some, union_eq (by omega) (by omega) ua ub, Option.bind_some, compl_eq (by omega) nU, Option.bind_some, compl_eq (by omega) ua, Option.bind_some, compl_eq (by omega) ub, Option.bind_some, inter_eq (by omega) (by omega) c0 c1, Option.bind_some, ← e1, s_keep_Intervals _ _ (by omega) (by omega), q_keep_rfl, Option.bind_some]
    simp only [gc, cond_true, Bool.true_and, Option.bind_some]
    rw [compl_eq (by omega) c0, e2, Option.bind_some, s_keep_Intervals _ _ (by omega) (by omega), q_keep_rfl, Option.bind_some]
    simp only [cond_true, Bool.true_and, Option.bind_some]
    rw [inter_eq (by omega) (by omega) ua ub, Option.bind_some, subt_eq (by omega) (by omega) ua ub, Option.bind_some, union_eq (by omega) (by omega) nI nS, e3, Option.bind_some, s_keep_Intervals _ _ (by omega) (by omega), q_keep_rfl, Option.bind_some]
    simp only [cond_true, Bool.true_and, Option.bind_some]
    rw [inter_eq (by omega) (by omega) nI nS, e4, Option.bind_some]
    simp only [List.length_nil, beq_self_eq_true, Bool.and_self, Int.natCast_zero, Int.cast_ofNat_Int, cond_true]
    rw [sane_some]
    rfl
end Nv
