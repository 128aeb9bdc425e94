/- The plain law of IntervalSizes: the sizes add up. -/
import Derived.Test.YtpggnodnpjejlaaDoorNvId
import Derived.Test.YtpggnodnpjejlaaDoorNvIz
import Derived.Test.YtpggnodnpjejlaaDoorNvI4
import Derived.Test.YtpggnodnpjejlaaDoorNvS1
import Derived.Test.YtpggnodnpjejlaaDoorNvV1
namespace Nv
open Go
theorem u32_of {a : List TInterval} (h : ∀ y ∈ a, W_TInterval y) : ∀ t ∈ a, U32 t := fun t ht => by
  have h1 := wf_u32 (h t ht).1
  have h2 := wf_u32 (h t ht).2
  exact ⟨h1.1, h1.2, h2.1, h2.2⟩
theorem b2_iff {p q : Bool} (h : p = true ↔ q = true) : b2 p = b2 q := by rw [Bool.eq_iff_iff.2 h]
theorem plain_IntervalSizes (a0 a1 : List TInterval) (w0 : a0.length ≤ maxLen ∧ a0.length * 8 ≤ reachBytes ∧ ∀ y ∈ a0, W_TInterval y) (w1 : a1.length ≤ maxLen ∧ a1.length * 8 ≤ reachBytes ∧ ∀ y ∈ a1, W_TInterval y) : M.law3_IntervalSizes a0 a1 = some true := by
  have hM := maxLen_eq
  have ua := u32_of w0.2.2
  have ub := u32_of w1.2.2
  unfold M.law3_IntervalSizes
  rw [s_law3_few a0 a1 w0.1 w1.1, Option.bind_some]
  cases hf : S.law3_few a0 a1 with
  | false => rfl
  | true =>
    have h30 : a0.length ≤ 30 ∧ a1.length ≤ 30 := by
      unfold S.law3_few at hf
      simp only [Bool.and_eq_true, decide_eq_true_eq] at hf
      omega
    have l0 := nrm_len a0
    have l1 := nrm_len a1
    have lu := nrm_len (a0 ++ a1)
    rw [List.length_append] at lu
    have li := isect_len _ (nrm a0) (nrm a1) (Nat.le_refl _)
    have lc0 := compl_len (nrm a0) 0
    have n0 := nrm_u32 ua
    have n1 := nrm_u32 ub
    have nU := nrm_u32 (u32_append ua ub)
    have nI := isect_u32 n0 n1
    have nC := compl_u32 (nrm_ok a0).1 n0
    have hU := uni_is a0 a1
    have hI := int_is a0 a1
    have hC := com_is ua
    have eU : nrm (nrm (a0 ++ a1)) = nrm (a0 ++ a1) := (nrm_ok _).uniq ⟨hU.1, fun _ => Iff.rfl⟩
    have eI : nrm (isect (nrm a0) (nrm a1)) = isect (nrm a0) (nrm a1) := (nrm_ok _).uniq ⟨hI.1, fun _ => Iff.rfl⟩
    have eC : nrm (compl 0 (nrm a0)) = compl 0 (nrm a0) := (nrm_ok _).uniq ⟨hC.1, fun _ => Iff.rfl⟩
    have bd : ∀ {l : List TInterval}, Can l → (∀ t ∈ l, U32 t) → 0 ≤ isz l ∧ isz l ≤ 4294967296 := fun hc hu => ⟨isz_nonneg hc.2, by have := isz_le hc hu (fun t ht => (hu t ht).1) (by decide); omega⟩
    obtain ⟨N, hN⟩ : ∃ N : Nat, N = 4294967296 := ⟨_, rfl⟩
    have zU := isz_cnt hN hU.1 nU
    have zI := isz_cnt hN hI.1 nI
    have zC := isz_cnt hN hC.1 nC
    have z0 := isz_cnt hN (nrm_ok a0).1 n0
    have z1 := isz_cnt hN (nrm_ok a1).1 n1
    have s1 : isz (nrm (a0 ++ a1)) + isz (isect (nrm a0) (nrm a1)) = isz (nrm a0) + isz (nrm a1) := by
      rw [zU, zI, z0, z1]
      refine cnt_add (fun x => ?_) N
      have p1 : memB (nrm (a0 ++ a1)) x = (memB (nrm a0) x || memB (nrm a1) x) := by
        rw [Bool.eq_iff_iff, Bool.or_eq_true, memB_iff, memB_iff, memB_iff, hU.2, (nrm_ok a0).2, (nrm_ok a1).2]
      have p2 : memB (isect (nrm a0) (nrm a1)) x = (memB (nrm a0) x && memB (nrm a1) x) := by
        rw [Bool.eq_iff_iff, Bool.and_eq_true, memB_iff, memB_iff, memB_iff, hI.2, (nrm_ok a0).2, (nrm_ok a1).2]
      rw [p1, p2]
      cases memB (nrm a0) x <;> cases memB (nrm a1) x <;> rfl
    have s2 : isz (nrm a0) + isz (compl 0 (nrm a0)) = 4294967296 := by
      have q : cntF (fun x => decide (0 ≤ x) && decide (x ≤ 4294967295)) N = 4294967296 := by
        rw [cnt_iv 0 4294967295 (by decide) (by decide) N, if_neg (by omega), if_pos (by omega)]; omega
      rw [zC, z0, ← q]
      have := cnt_add (f := memB (nrm a0)) (g := memB (compl 0 (nrm a0))) (h := fun x => decide (0 ≤ x) && decide (x ≤ 4294967295)) (k := fun _ => false) (fun x => by
        by_cases hx : 0 ≤ x ∧ x ≤ 4294967295
        · have p1 : memB (compl 0 (nrm a0)) x = !memB (nrm a0) x := by
            rw [Bool.eq_iff_iff, Bool.not_eq_true', ← Bool.not_eq_true, memB_iff, memB_iff, hC.2, (nrm_ok a0).2]
            exact ⟨fun h => h.2.2, fun h => ⟨hx.1, hx.2, h⟩⟩
          rw [p1, show (decide (0 ≤ x) && decide (x ≤ 4294967295)) = true by simp; omega]
          cases memB (nrm a0) x <;> rfl
        · have p0 : memB (nrm a0) x = false := by
            rw [← Bool.not_eq_true, memB_iff]; exact fun h => hx (imem_u32 n0 h)
          have p1 : memB (compl 0 (nrm a0)) x = false := by
            rw [← Bool.not_eq_true, memB_iff]; exact fun h => hx (imem_u32 nC h)
          rw [p0, p1, show (decide (0 ≤ x) && decide (x ≤ 4294967295)) = false by simp; omega]) N
      rw [cnt_none (f := fun _ => false) (fun _ => rfl) N, Int.add_zero] at this
      exact this
    have b0 := bd (nrm_ok a0).1 n0
    have b1 := bd (nrm_ok a1).1 n1
    have bU := bd hU.1 nU
    have bI := bd hI.1 nI
    have bC := bd hC.1 nC
    simp only [Bool.not_true, cond_false]
    rw [union_eq (by omega) (by omega) ua ub, Option.bind_some, size_eq (by omega) nU, eU, Option.bind_some, inter_eq (by omega) (by omega) ua ub, Option.bind_some, size_eq (by omega) nI, eI, Option.bind_some, size_eq (by omega) ua, Option.bind_some, size_eq (by omega) ub, Option.bind_some, s1]
    simp only [beq_self_eq_true, gc, cond_true, Bool.true_and, Option.bind_some]
    rw [compl_eq (by omega) ua, Option.bind_some, size_eq (by omega) nC, eC, Option.bind_some, s2]
    rw [show wr .u64 4294967296 = 4294967296 by decide]
    simp only [beq_self_eq_true, cond_true, Bool.true_and, Option.bind_some]
    rw [norm_eq (by omega) ua, Option.bind_some, isz_zero (nrm_ok a0).1.2]
    simp only [beq_self_eq_true, cond_true, Bool.true_and]
    rw [sane_some, Option.bind_some]
end Nv
