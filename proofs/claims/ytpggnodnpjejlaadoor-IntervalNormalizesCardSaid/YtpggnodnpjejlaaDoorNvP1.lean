/- The plain law of IntervalNormalizes: Normalize, Valid and Has are the documented ones. -/
import Derived.Test.YtpggnodnpjejlaaDoorNvI2
import Derived.Test.YtpggnodnpjejlaaDoorNvI3
import Derived.Test.YtpggnodnpjejlaaDoorNvI4
import Derived.Test.YtpggnodnpjejlaaDoorNvS1
import Derived.Test.YtpggnodnpjejlaaDoorNvV1
namespace Nv
open Go
theorem q_refHas (l : List TInterval) (x : Int) : S.ref4_Has l x = hasB l x := by
  unfold S.ref4_Has hasB
  simp only [letS]
  rw [runN_anyE (g := S.ref4_Has_l1 l x) (c := fun k => decide ((l.getD k default).fLo ≤ x) && decide (x ≤ (l.getD k default).fHi)) (v := .inr true) (fun k => rfl)]
  cases anyN (fun k => decide ((l.getD k default).fLo ≤ x) && decide (x ≤ (l.getD k default).fHi)) l.length <;> rfl
theorem q_canon (l : List TInterval) : S.ref4_Canonical l = S.interval_Valid l := rfl
theorem plain_IntervalNormalizes (a0 : List TInterval) (a1 : Int) (w0 : a0.length ≤ maxLen ∧ a0.length * 8 ≤ reachBytes ∧ ∀ y ∈ a0, W_TInterval y) (_w1 : (Lit.int .u32 a1).wf = true) : M.law3_IntervalNormalizes a0 a1 = some true := by
  have hM := maxLen_eq
  have hu : ∀ t ∈ a0, U32 t := fun t ht => by
    have h1 := wf_u32 (w0.2.2 t ht).1
    have h2 := wf_u32 (w0.2.2 t ht).2
    exact ⟨h1.1, h1.2, h2.1, h2.2⟩
  unfold M.law3_IntervalNormalizes
  rw [s_law3_few a0 [] w0.1 (Nat.zero_le _), Option.bind_some]
  cases hf : S.law3_few a0 [] with
  | false => rfl
  | true =>
    have h30 : a0.length ≤ 30 := by
      unfold S.law3_few at hf
      simp only [Bool.and_eq_true, decide_eq_true_eq] at hf
      omega
    simp only [Bool.not_true, cond_false]
    have hlen := nrm_len a0
    have hN := nrm_ok a0
    obtain ⟨r, r1, r2, r3⟩ := refN_ok (l := a0) (by omega) hu
    obtain rfl := hN.uniq r2
    have hul := nrm_u32 hu
    have v1 : S.interval_Valid (nrm a0) = true := (valid_iff (by omega) hul).2 hN.1
    have hb := hasB_congr (hN.2 a1)
    rw [norm_eq (by omega) hu, Option.bind_some, r1, Option.bind_some, s_keep_Intervals _ _ (by omega) (by omega), q_keep_rfl, Option.bind_some]
    simp only [gc, cond_true]
    rw [s_interval_Valid _ (by omega), v1, Option.bind_some]
    simp only [Bool.true_and, cond_true]
    rw [s_interval_Valid a0 (by omega), Option.bind_some, s_ref4_Canonical a0 (by omega), Option.bind_some, q_canon]
    simp only [beq_self_eq_true, Bool.and_self, Bool.and_true, Bool.true_and, cond_true]
    rw [s_interval_Has a0 a1 (by omega), Option.bind_some, s_ref4_Has a0 a1 (by omega), Option.bind_some, q_refHas, q_Has]
    simp only [beq_self_eq_true, Bool.and_self, Bool.and_true, Bool.true_and, cond_true]
    rw [s_interval_Has _ a1 (by omega), Option.bind_some, Option.bind_some, q_Has, hb]
    simp only [beq_self_eq_true, Bool.and_self, Bool.and_true, Bool.true_and, cond_true]
    rw [sane_some, Option.bind_some]
end Nv
