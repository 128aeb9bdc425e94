/- The plain law of SpfDistances: the program's least costs are the reference's. -/
import Derived.Test.YtlhpjcjjnbfmbaaNvY3
import Derived.Test.YtlhpjcjjnbfmbaaNvV1
import Derived.Test.YtlhpjcjjnbfmbaaNvS1
set_option maxRecDepth 100000
namespace Nv
open Go
theorem ints_rfl {l : List Int} (hl : l.length ≤ 1000) : M.keep_Ints l l = some true := by
  have loop : ∀ (k i : Nat), i + k = l.length → Iter (M.keep_Ints_l1 l l) (i : Int) (.inl ()) := by
    intro k
    induction k with
    | zero =>
      intro i h
      refine .out ?_
      unfold M.keep_Ints_l1
      rw [show decide ((i : Int) < (l.length : Int)) = false from decide_eq_false (by omega)]
      rfl
    | succ k ih =>
      intro i h
      refine .next ?_ (ih (i + 1) (by omega))
      unfold M.keep_Ints_l1
      rw [show decide ((i : Int) < (l.length : Int)) = true from decide_eq_true (by omega), cond_true, gdT (by simp), bne_self_eq_false, cond_false, up1 (by omega)]
  unfold M.keep_Ints
  have e : loopM (M.keep_Ints_l1 l l) 0 = some (.inl ()) := loopM_of (loop l.length 0 (Nat.zero_add _))
  rw [bne_self_eq_false, cond_false, e]
  rfl
theorem plain_SpfDistances (a0 : Int) (a1 : List TEdge) (a2 : Int) (_w0 : (Lit.int .i64 a0).wf = true) (_w1 : a1.length ≤ maxLen ∧ a1.length * 40 ≤ reachBytes ∧ ∀ y ∈ a1, W_TEdge y) (_w2 : (Lit.int .i64 a2).wf = true) : M.law15_SpfDistances a0 a1 a2 = some true := by
  unfold M.law15_SpfDistances M.law15_few
  rw [Option.bind_some]
  cases hf : ((decide (a0 ≤ 12)) && (decide ((a1.length : Int) ≤ 60))) with
  | false => rfl
  | true =>
    simp only [Bool.and_eq_true, decide_eq_true_eq] at hf
    obtain ⟨d, hd, hD, _⟩ := dist_ok (a0 := a0) (by omega) (es := a1) (by omega) a2
    obtain ⟨e, he, hE⟩ := rdist_ok (a0 := a0) (by omega) (es := a1) (by omega) a2
    obtain rfl := hD.uniq hE
    simp only [gc, Bool.not_true, Bool.not_false, cond_true]
    rw [hd, Option.bind_some, he, Option.bind_some, ints_rfl (by have := hD.len; omega), Option.bind_some]
    simp only [Bool.and_self, cond_true]
    rw [sane_some, Option.bind_some]
    rfl
end Nv
