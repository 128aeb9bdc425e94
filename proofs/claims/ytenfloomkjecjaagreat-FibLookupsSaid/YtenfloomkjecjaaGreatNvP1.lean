/- The plain law of FibLookups. -/
import Derived.Test.YtenfloomkjecjaaGreatNvF4
import Derived.Test.YtenfloomkjecjaaGreatNvV1
import Derived.Test.YtenfloomkjecjaaGreatNvS1
set_option maxRecDepth 100000
namespace Nv
open Go
theorem rContains_some (x : TForward) (a : Int) : M.ref4_Contains x.fPrefix a = some (fcon x a) := by
  unfold M.ref4_Contains fcon
  rw [s_ref4_Mask]
  rfl
theorem lookupF_eq (t : List TForward) (hM : t.length ≤ maxLen) (a : Int) : M.ref24_LookupForward t a = some (enc (lgst (fun x => fcon x a) fw default t t.length)) := by
  unfold M.ref24_LookupForward
  rw [lookLoop (fun x => fcon x a) fw default t (fun i hi b hb => ?_) (fun b => ?_)]
  · rfl
  · unfold M.ref24_LookupForward_l1 M.ref24_LookupForward_k1
    have q1 : decide ((i : Int) < (t.length : Int)) = true := lt_t hi
    have q2 : decide (0 ≤ (i : Int)) = true := ge_t
    simp only [Int.toNat_natCast, q1, q2, cond_true, upW hi hM, guardB_t]
    rw [rContains_some, Option.bind_some]
    cases b with
    | none =>
      have e : decide (enc none < 0) = true := rfl
      simp only [e, Bool.not_true, Bool.and_false, guardB_f, Bool.true_or, Bool.and_true]
      rw [gdT (by rfl)]
      simp only [lgstS]
      cases fcon (t.getD i default) a <;> rfl
    | some k =>
      have hk := hb k rfl
      have e : decide (enc (some k) < 0) = false := enc_neg (some k)
      have e2 : (enc (some k)).toNat = k := by show ((k : Int)).toNat = k; omega
      have q3 : decide (0 ≤ enc (some k)) = true := decide_eq_true (by show 0 ≤ (k : Int); omega)
      have q4 : decide (enc (some k) < (t.length : Int)) = true := decide_eq_true (by show (k : Int) < (t.length : Int); omega)
      simp only [e, e2, q3, q4, Bool.not_false, Bool.and_true, guardB_t, Bool.false_or]
      rw [gdT (by rfl)]
      simp only [lgstS, fw]
      cases fcon (t.getD i default) a
      · rfl
      · by_cases hl : (t.getD i default).fPrefix.fLen > (t.getD k default).fPrefix.fLen
        · simp only [hl, decide_true, Bool.and_self, cond_true]; rfl
        · simp only [hl, decide_false, Bool.and_false, cond_false]
  · unfold M.ref24_LookupForward_l1
    simp only [lt_f, cond_false]
open Classical in
theorem plain_FibLookups (a0 : List TForward) (a1 : Int) (w0 : a0.length ≤ maxLen ∧ a0.length * 48 ≤ reachBytes ∧ ∀ y ∈ a0, W_TForward y) (_w1 : (Lit.int .u32 a1).wf = true) : M.law24_FibLookups a0 a1 = some true := by
  unfold M.law24_FibLookups
  rw [right_eq, Option.bind_some]
  by_cases h : Rt a0
  · rw [decide_eq_true h, lookup_eq a0 w0.1, lookupF_eq a0 w0.1, Option.bind_some, Option.bind_some, beq_self_eq_true, sane_some]
    rfl
  · rw [decide_eq_false h]; rfl
end Nv
