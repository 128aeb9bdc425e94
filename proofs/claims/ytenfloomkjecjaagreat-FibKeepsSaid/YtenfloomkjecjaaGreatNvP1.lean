/- The plain law of FibKeeps. -/
import Derived.Test.YtenfloomkjecjaaGreatNvF4
import Derived.Test.YtenfloomkjecjaaGreatNvF5
import Derived.Test.YtenfloomkjecjaaGreatNvV1
import Derived.Test.YtenfloomkjecjaaGreatNvS1
set_option maxRecDepth 100000
namespace Nv
open Go
theorem wf_u32 {x : Int} (h : (Lit.int .u32 x).wf = true) : 0 ≤ x ∧ x < 4294967296 := by
  simp only [Lit.wf, Bool.and_eq_true, decide_eq_true_eq] at h
  have e1 : IntKind.min .u32 = 0 := by decide
  have e2 : IntKind.max .u32 = 4294967295 := by decide
  rw [e1, e2] at h
  omega
theorem rt_comp {t : List TForward} (h : Rt t) : Rt (comp fw fcov hact default t) := by
  unfold comp
  exact ⟨Nat.le_trans (List.length_filter_le _ _) h.len, fun x hx => h.val x (List.mem_filter.1 hx).1, fun x hx => h.hops x (List.mem_filter.1 hx).1, List.Pairwise.sublist List.filter_sublist h.asc⟩
open Classical in
theorem plain_FibKeeps (a0 : List TForward) (a1 : Int) (w0 : a0.length ≤ maxLen ∧ a0.length * 48 ≤ reachBytes ∧ ∀ y ∈ a0, W_TForward y) (w1 : (Lit.int .u32 a1).wf = true) : M.law24_FibKeeps a0 a1 = some true := by
  unfold M.law24_FibKeeps
  rw [right_eq, Option.bind_some]
  by_cases h : Rt a0
  · have hc := rt_comp h
    have ha := wf_u32 w1
    have hv : ∀ x ∈ a0, VP x := fun x hx => fval_vp (h.val x hx) (wf_u32 (w0.2.2 x hx).1.1)
    have tb := tab_ok hv h.asc
    have hcon : (fun x => fc x a1) = (fun x => fcon x a1) := funext fun x => by
      unfold fc; rw [decide_eq_true ha, Bool.true_and]
    have hk := tb.keeps (d := default) a1
    rw [hcon] at hk
    have hag := tb.again (d := default)
    have hl : ∀ (t : List TForward), Rt t → t.length ≤ maxLen := fun t r => Nat.le_trans r.len (by decide)
    have hlen : (comp fw fcov hact default a0).length ≤ a0.length := by unfold comp; exact List.length_filter_le _ _
    rw [decide_eq_true h, Bool.not_true, cond_false, compress_eq a0 h.len h.hops, Option.bind_some, lookup_eq a0 w0.1, Option.bind_some, lookup_eq _ (hl _ hc), Option.bind_some, right_eq,
      compress_eq _ hc.len hc.hops, hag, sane_some, decide_eq_true hc, decide_eq_false (show ¬ ((comp fw fcov hact default a0).length : Int) > (a0.length : Int) by omega)]
    have hsf := sameF_refl _ (hl _ hc) (fun x hx => Nat.le_trans (hc.hops x hx) (by decide))
    simp only [Bool.not_false, gc, cond_true, Option.bind_some, Bool.not_true, Bool.false_or]
    rcases hk with ⟨h1, h2⟩ | ⟨i, k, h1, h2, h3, h4, h5⟩
    · have q0 : decide (enc none < 0) = true := rfl
      have q1 : decide (enc none ≥ (a0.length : Int)) = false := decide_eq_false (by show ¬ (-1 : Int) ≥ (a0.length : Int); omega)
      have q2 : decide (enc none ≥ ((comp fw fcov hact default a0).length : Int)) = false := decide_eq_false (by show ¬ (-1 : Int) ≥ ((comp fw fcov hact default a0).length : Int); omega)
      rw [h1, h2]
      simp only [q0, q1, q2, hsf, Bool.not_true, cond_true, cond_false, Option.bind_some, Bool.true_or, Bool.or_self, beq_self_eq_true, Bool.and_self, Bool.false_or, guardB_f]
      rfl
    · have e1 : (enc (some i)).toNat = i := by show ((i : Int)).toNat = i; omega
      have e2 : (enc (some k)).toNat = k := by show ((k : Int)).toNat = k; omega
      have q1 : decide (enc (some i) ≥ (a0.length : Int)) = false := decide_eq_false (by show ¬ (i : Int) ≥ (a0.length : Int); omega)
      have q2 : decide (enc (some k) ≥ ((comp fw fcov hact default a0).length : Int)) = false := decide_eq_false (by show ¬ (k : Int) ≥ ((comp fw fcov hact default a0).length : Int); omega)
      have q3 : decide (enc (some i) < 0) = false := enc_neg (some i)
      have q4 : decide (enc (some k) < 0) = false := enc_neg (some k)
      have q5 : decide (0 ≤ enc (some i)) = true := decide_eq_true (by show 0 ≤ (i : Int); omega)
      have q6 : decide (0 ≤ enc (some k)) = true := decide_eq_true (by show 0 ≤ (k : Int); omega)
      have q7 : decide (enc (some i) < (a0.length : Int)) = true := decide_eq_true (by show (i : Int) < (a0.length : Int); omega)
      have q8 : decide (enc (some k) < ((comp fw fcov hact default a0).length : Int)) = true := decide_eq_true (by show (k : Int) < ((comp fw fcov hact default a0).length : Int); omega)
      have hac := action_eq (a0.getD i default) ((comp fw fcov hact default a0).getD k default) (Nat.le_trans (h.hops _ (getDmem h3)) (by decide))
      rw [h1, h2]
      simp only [e1, e2, q1, q2, q3, q4, q5, q6, q7, q8, hac, h5, Bool.not_false, cond_true, cond_false, Option.bind_some, Bool.false_or, hsf, Bool.or_self, beq_self_eq_true, Bool.not_true, Bool.and_self, guardB_t]
      rfl
  · rw [decide_eq_false h]; rfl
end Nv
