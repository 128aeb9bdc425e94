/- The plain law of IntervalCombines: the four operations give canonical lists of the sets. -/
import Derived.Test.YtpggnodnpjejlaaDoorNvIs
import Derived.Test.YtpggnodnpjejlaaDoorNvIh
import Derived.Test.YtpggnodnpjejlaaDoorNvIv
import Derived.Test.YtpggnodnpjejlaaDoorNvS1
import Derived.Test.YtpggnodnpjejlaaDoorNvV1
namespace Nv
open Go
theorem q_refHas (l : List TInterval) (x : Int) : S.ref4_Has l x = hasB l x := by
  unfold S.ref4_Has hasB
  simp only [letS]
  rw [runN_anyE (g := S.ref4_Has_l1 l x) (c := fun k => decide ((l.getD k default).fLo ≤ x) && decide (x ≤ (l.getD k default).fHi)) (v := .inr true) (fun k => rfl)]
  cases anyN (fun k => decide ((l.getD k default).fLo ≤ x) && decide (x ≤ (l.getD k default).fHi)) l.length <;> rfl
theorem u32_of {a : List TInterval} (h : ∀ y ∈ a, W_TInterval y) : ∀ t ∈ a, U32 t := fun t ht => by
  have h1 := wf_u32 (h t ht).1
  have h2 := wf_u32 (h t ht).2
  exact ⟨h1.1, h1.2, h2.1, h2.2⟩
theorem hasB_or {l a b : List TInterval} {x : Int} (h : imem l x ↔ imem a x ∨ imem b x) : hasB l x = (hasB a x || hasB b x) := by
  rw [Bool.eq_iff_iff, Bool.or_eq_true, hasB_iff, hasB_iff, hasB_iff]; exact h
theorem hasB_and {l a b : List TInterval} {x : Int} (h : imem l x ↔ imem a x ∧ imem b x) : hasB l x = (hasB a x && hasB b x) := by
  rw [Bool.eq_iff_iff, Bool.and_eq_true, hasB_iff, hasB_iff, hasB_iff]; exact h
theorem hasB_sub {l a b : List TInterval} {x : Int} (h : imem l x ↔ imem a x ∧ ¬ imem b x) : hasB l x = (hasB a x && !hasB b x) := by
  rw [Bool.eq_iff_iff, Bool.and_eq_true, Bool.not_eq_true', ← Bool.not_eq_true, hasB_iff, hasB_iff, hasB_iff]; exact h
theorem hasB_not {l a : List TInterval} {x : Int} (h : imem l x ↔ ¬ imem a x) : hasB l x = !hasB a x := by
  rw [Bool.eq_iff_iff, Bool.not_eq_true', ← Bool.not_eq_true, hasB_iff, hasB_iff]; exact h
theorem plain_IntervalCombines (a0 a1 : List TInterval) (a2 : Int) (w0 : a0.length ≤ maxLen ∧ a0.length * 8 ≤ reachBytes ∧ ∀ y ∈ a0, W_TInterval y) (w1 : a1.length ≤ maxLen ∧ a1.length * 8 ≤ reachBytes ∧ ∀ y ∈ a1, W_TInterval y) (w2 : (Lit.int .u32 a2).wf = true) : M.law3_IntervalCombines a0 a1 a2 = some true := by
  have hM := maxLen_eq
  have ua := u32_of w0.2.2
  have ub := u32_of w1.2.2
  have hx := wf_u32 w2
  unfold M.law3_IntervalCombines
  rw [s_law3_few a0 a1 w0.1 w1.1, Option.bind_some]
  cases hf : S.law3_few a0 a1 with
  | false => rfl
  | true =>
    have h30 : a0.length ≤ 30 ∧ a1.length ≤ 30 := by
      unfold S.law3_few at hf
      simp only [Bool.and_eq_true, decide_eq_true_eq] at hf
      omega
    have l0 := nrm_len a0
    have l1 := nrm_len a1
    have lu := nrm_len (a0 ++ a1)
    rw [List.length_append] at lu
    have li := isect_len _ (nrm a0) (nrm a1) (Nat.le_refl _)
    have lc0 := compl_len (nrm a0) 0
    have lc1 := compl_len (nrm a1) 0
    have lc2 := nrm_len (compl 0 (nrm a1))
    have ls := isect_len _ (nrm a0) (nrm (compl 0 (nrm a1))) (Nat.le_refl _)
    have n0 := nrm_u32 ua
    have n1 := nrm_u32 ub
    have c1 := compl_u32 (nrm_ok a1).1 n1
    have hU := uni_is a0 a1
    have hI := int_is a0 a1
    have hC := com_is ua
    have hS := sub_is ua ub
    have hCx : imem (compl 0 (nrm a0)) a2 ↔ ¬ imem a0 a2 := by rw [hC.2]; exact ⟨fun h => h.2.2, fun h => ⟨by omega, by omega, h⟩⟩
    simp only [Bool.not_true, cond_false]
    rw [union_eq (by omega) (by omega) ua ub, Option.bind_some, inter_eq (by omega) (by omega) ua ub, Option.bind_some, subt_eq (by omega) (by omega) ua ub, Option.bind_some, compl_eq (by omega) ua, Option.bind_some]
    rw [s_ref4_Has a0 a2 (by omega), Option.bind_some, s_ref4_Has a1 a2 (by omega), Option.bind_some, q_refHas, q_refHas]
    rw [s_interval_Valid _ (by omega), (valid_iff (by omega) (nrm_u32 (u32_append ua ub))).2 hU.1, Option.bind_some]
    simp only [gc, cond_true, Bool.true_and]
    rw [s_interval_Valid _ (by omega), (valid_iff (by omega) (isect_u32 n0 n1)).2 hI.1, Option.bind_some]
    simp only [cond_true, Bool.true_and]
    rw [s_interval_Valid _ (by omega), (valid_iff (by omega) (isect_u32 n0 (nrm_u32 c1))).2 hS.1, Option.bind_some]
    simp only [cond_true, Bool.true_and]
    rw [s_interval_Valid _ (by omega), (valid_iff (by omega) (compl_u32 (nrm_ok a0).1 n0)).2 hC.1, Option.bind_some]
    simp only [cond_true, Bool.true_and]
    rw [s_interval_Has _ a2 (by omega), Option.bind_some, q_Has, hasB_or (hU.2 a2)]
    simp only [beq_self_eq_true, cond_true, Bool.true_and]
    rw [s_interval_Has _ a2 (by omega), Option.bind_some, q_Has, hasB_and (hI.2 a2)]
    simp only [beq_self_eq_true, cond_true, Bool.true_and]
    rw [s_interval_Has _ a2 (by omega), Option.bind_some, q_Has, hasB_sub (hS.2 a2)]
    simp only [beq_self_eq_true, cond_true, Bool.true_and]
    rw [s_interval_Has _ a2 (by omega), Option.bind_some, q_Has, hasB_not hCx]
    simp only [beq_self_eq_true, cond_true, Bool.true_and]
    rw [sane_some, Option.bind_some]
end Nv
