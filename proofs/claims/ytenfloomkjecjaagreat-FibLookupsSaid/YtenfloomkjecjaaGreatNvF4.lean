/- Lookup finds the longest. No condition. -/
import Derived.Test.YtenfloomkjecjaaGreatNvF3
set_option maxRecDepth 100000
namespace Nv
open Go
theorem fContains_some (x : TForward) (a : Int) : M.addr_Contains x.fPrefix a = some (fcon x a) := by
  unfold M.addr_Contains fcon
  rw [s_addr_Mask]
  rfl
theorem lookup_eq (t : List TForward) (hM : t.length ≤ maxLen) (a : Int) : M.fib_Lookup t a = some (enc (lgst (fun x => fcon x a) fw default t t.length)) := by
  unfold M.fib_Lookup
  rw [lookLoop (fun x => fcon x a) fw default t (fun i hi b hb => ?_) (fun b => ?_)]
  · rfl
  · unfold M.fib_Lookup_l1 M.fib_Lookup_k1
    have q1 : decide ((i : Int) < (t.length : Int)) = true := lt_t hi
    have q2 : decide (0 ≤ (i : Int)) = true := ge_t
    simp only [Int.toNat_natCast, q1, cond_true, upW hi hM]
    rw [gdT (by simp only [List.all_cons, List.all_nil, q2, id, Bool.and_self]), fContains_some, Option.bind_some]
    cases b with
    | none =>
      have e : decide (enc none < 0) = true := rfl
      simp only [e, Bool.not_true, Bool.and_false, guardB_f, Bool.true_or, Bool.and_true]
      rw [gdT (by rfl)]
      simp only [lgstS]
      cases fcon (t.getD i default) a <;> rfl
    | some k =>
      have hk := hb k rfl
      have e : decide (enc (some k) < 0) = false := enc_neg (some k)
      have e2 : (enc (some k)).toNat = k := by show ((k : Int)).toNat = k; omega
      have q3 : decide (0 ≤ enc (some k)) = true := decide_eq_true (by show 0 ≤ (k : Int); omega)
      have q4 : decide (enc (some k) < (t.length : Int)) = true := decide_eq_true (by show (k : Int) < (t.length : Int); omega)
      simp only [e, e2, q3, q4, Bool.not_false, Bool.and_true, guardB_t, Bool.false_or]
      rw [gdT (by rfl)]
      simp only [lgstS, fw]
      cases fcon (t.getD i default) a
      · rfl
      · by_cases hl : (t.getD i default).fPrefix.fLen > (t.getD k default).fPrefix.fLen
        · simp only [hl, decide_true, Bool.and_self, cond_true]; rfl
        · simp only [hl, decide_false, Bool.and_false, cond_false]
  · unfold M.fib_Lookup_l1
    simp only [lt_f, cond_false]
end Nv
