/- The plain law of FibCompresses. -/
import Derived.Test.YtenfloomkjecjaaGreatNvF5
import Derived.Test.YtenfloomkjecjaaGreatNvV1
import Derived.Test.YtenfloomkjecjaaGreatNvS1
set_option maxRecDepth 100000
namespace Nv
open Go
theorem rCovers_some (p x : TForward) : M.ref4_Covers p.fPrefix x.fPrefix = some (fcov p x) := by
  unfold M.ref4_Covers fcov M.ref4_Contains gc
  rw [s_ref4_Mask]
  cases decide (p.fPrefix.fLen ≤ x.fPrefix.fLen) <;> rfl
theorem rparent_eq (t : List TForward) (hM : t.length ≤ maxLen) (j : Nat) (hj : j < t.length) (acc : List TForward) : loopM (M.ref24_Compress_l2 t (acc, (j : Int))) (-1, 0) = some (enc (lgst (fpar (t.getD j default)) fw default t t.length)) := by
  refine lookLoop (fpar (t.getD j default)) fw default t (fun i hi b hb => ?_) (fun b => ?_)
  · unfold M.ref24_Compress_l2 M.ref24_Compress_k2
    have q1 : decide ((i : Int) < (t.length : Int)) = true := lt_t hi
    have q2 : decide (0 ≤ (i : Int)) = true := ge_t
    have q5 : decide ((j : Int) < (t.length : Int)) = true := lt_t hj
    have q6 : decide (0 ≤ (j : Int)) = true := ge_t
    simp only [Int.toNat_natCast, q1, q2, q5, q6, cond_true, upW hi hM, guardB_t]
    rw [rCovers_some]
    have hw : decide ((t.getD i default).fPrefix.fLen < (t.getD j default).fPrefix.fLen) = decide (fw (t.getD i default) < fw (t.getD j default)) := rfl
    have hp : fpar (t.getD j default) (t.getD i default) = (decide (fw (t.getD i default) < fw (t.getD j default)) && fcov (t.getD i default) (t.getD j default)) := rfl
    rw [hw]
    cases hd : decide (fw (t.getD i default) < fw (t.getD j default)) with
    | false =>
      rw [hd, Bool.false_and] at hp
      simp only [gc, cond_false, Option.bind_some, Bool.false_and, guardB_f, gd, List.all_cons, List.all_nil, id, Bool.and_self, cond_true]
      cases b with
      | none => simp only [lgstS, hp, cond_false]
      | some k => simp only [lgstS, hp, cond_false, Bool.false_and]
    | true =>
      rw [hd, Bool.true_and] at hp
      simp only [gc, cond_true, Option.bind_some, Bool.true_and]
      cases hc : fcov (t.getD i default) (t.getD j default) with
      | false =>
        rw [hc] at hp
        cases b with
        | none => simp only [lgstS, hp, Bool.false_and, guardB_f, gd, List.all_cons, List.all_nil, id, Bool.and_self, cond_false, cond_true]
        | some k => simp only [lgstS, hp, Bool.false_and, guardB_f, gd, List.all_cons, List.all_nil, id, Bool.and_self, cond_false, cond_true]
      | true =>
        rw [hc] at hp
        cases b with
        | none =>
          have e : decide (enc none < 0) = true := rfl
          simp only [lgstS, hp, e, Bool.not_true, Bool.true_and, guardB_f, gd, List.all_cons, List.all_nil, id, Bool.and_self, Bool.true_or, cond_true]
          rfl
        | some k =>
          have hk := hb k rfl
          have e : decide (enc (some k) < 0) = false := enc_neg (some k)
          have e2 : (enc (some k)).toNat = k := by show ((k : Int)).toNat = k; omega
          have q3 : decide (0 ≤ enc (some k)) = true := decide_eq_true (by show 0 ≤ (k : Int); omega)
          have q4 : decide (enc (some k) < (t.length : Int)) = true := decide_eq_true (by show (k : Int) < (t.length : Int); omega)
          simp only [lgstS, hp, e, e2, q3, q4, guardB_t, gd, List.all_cons, List.all_nil, id, Bool.and_self, Bool.true_and, Bool.false_or, cond_true, fw]
          by_cases hl : (t.getD i default).fPrefix.fLen > (t.getD k default).fPrefix.fLen
          · simp only [hl, decide_true, cond_true]; rfl
          · simp only [hl, decide_false, cond_false]
  · unfold M.ref24_Compress_l2
    simp only [lt_f, cond_false]
theorem rcompress_eq (t : List TForward) (h40 : t.length ≤ 40) (hh : ∀ x ∈ t, x.fHops.length ≤ 10) : M.ref24_Compress t = some (comp fw fcov hact default t) := by
  have hM : t.length ≤ maxLen := Nat.le_trans h40 (by decide)
  unfold M.ref24_Compress
  rw [filtLoop (kept fw fcov hact default t) default t (fun i hi acc ha => ?_) (fun b => ?_)]
  · rfl
  · unfold M.ref24_Compress_l1 M.ref24_Compress_k1
    have q1 : decide ((i : Int) < (t.length : Int)) = true := lt_t hi
    have q2 : decide (0 ≤ (i : Int)) = true := ge_t
    have q7 : decide ((acc.length + 1) * 48 ≤ 140737488355328) = true := decide_eq_true (by omega)
    simp only [Int.toNat_natCast, q1, q2, q7, cond_true, upW hi hM]
    rw [rparent_eq t hM i hi, Option.bind_some]
    have hk : kept fw fcov hact default t (t.getD i default) = match lgst (fpar (t.getD i default)) fw default t t.length with
      | none => true
      | some b => !hact (t.getD b default) (t.getD i default) := rfl
    rw [hk]
    cases hb : lgst (fpar (t.getD i default)) fw default t t.length with
    | none =>
      have e : decide (enc none < 0) = true := rfl
      simp only [e, Bool.true_or, Bool.not_true, guardB_f, gc, cond_false, Option.bind_some, gd, List.all_cons, List.all_nil, id, Bool.and_self, cond_true]
    | some k =>
      have hk := lgst_lt hb
      have e : decide (enc (some k) < 0) = false := enc_neg (some k)
      have e2 : (enc (some k)).toNat = k := by show ((k : Int)).toNat = k; omega
      have q3 : decide (0 ≤ enc (some k)) = true := decide_eq_true (by show 0 ≤ (k : Int); omega)
      have q4 : decide (enc (some k) < (t.length : Int)) = true := decide_eq_true (by show (k : Int) < (t.length : Int); omega)
      simp only [e, e2, q3, q4, guardB_t, Bool.false_or]
      rw [action_eq _ _ (Nat.le_trans (hh _ (getDmem (by omega))) (by decide))]
      cases hact (t.getD k default) (t.getD i default) <;> rfl
  · unfold M.ref24_Compress_l1
    simp only [lt_f, cond_false]
open Classical in
theorem plain_FibCompresses (a0 : List TForward) (w0 : a0.length ≤ maxLen ∧ a0.length * 48 ≤ reachBytes ∧ ∀ y ∈ a0, W_TForward y) : M.law24_FibCompresses a0 = some true := by
  unfold M.law24_FibCompresses
  rw [right_eq, Option.bind_some]
  by_cases h : Rt a0
  · rw [decide_eq_true h, compress_eq a0 h.len h.hops, rcompress_eq a0 h.len h.hops]
    have hc : ∀ x ∈ comp fw fcov hact default a0, x.fHops.length ≤ maxLen := fun x hx => Nat.le_trans (h.hops x (mem_comp.1 hx).1) (by decide)
    have hl : (comp fw fcov hact default a0).length ≤ maxLen := Nat.le_trans (by unfold comp; exact List.length_filter_le _ _) w0.1
    simp only [Bool.not_true, Bool.not_false, gc, cond_true, Option.bind_some]
    rw [sameF_refl _ hl hc, sane_some]
    rfl
  · rw [decide_eq_false h]; rfl
end Nv
