/- The plain law of SpfReverse: the way back in the graph that is turned around costs the same. -/
import Derived.Test.YtlhpjcjjnbfmbaaNvY2
import Derived.Test.YtlhpjcjjnbfmbaaNvV1
import Derived.Test.YtlhpjcjjnbfmbaaNvS1
set_option maxRecDepth 100000
namespace Nv
open Go
def turn (e : TEdge) : TEdge := ⟨e.fTo, e.fFrom, e.fCost, e.fHop⟩
theorem turn_us {n : Nat} {e : TEdge} (h : Us n e) : Us n (turn e) := ⟨h.t0, h.t1, h.f0, h.f1, h.c0, h.c1⟩
theorem walk_turn {n : Nat} {es : List TEdge} {x y c : Int} (h : Walk n es x y c) : Walk n (es.map turn) y x c := by
  induction h with
  | nil => exact .nil
  | snoc h e he hu hf ih =>
    have h1 : Walk n (es.map turn) (turn e).fFrom (turn e).fTo (turn e).fCost := Walk.one (List.mem_map.2 ⟨e, he, rfl⟩) (turn_us hu)
    have h2 : Walk n (es.map turn) e.fTo e.fFrom e.fCost := h1
    rw [hf] at h2
    have := h2.append ih
    rwa [Int.add_comm] at this
theorem map_turn2 (es : List TEdge) : (es.map turn).map turn = es := by
  rw [List.map_map]
  conv => rhs; rw [← List.map_id es]
  rfl
theorem r_l1 {es : List TEdge} (he : es.length ≤ 1000) : ∀ (k i : Nat) (acc : List TEdge), i + k = es.length → acc.length = i → Iter (M.law15_SpfReverse_l1 es) (acc, (i : Int)) (acc ++ (es.drop i).map turn) := by
  intro k
  induction k with
  | zero =>
    intro i acc h _
    refine .out ?_
    unfold M.law15_SpfReverse_l1
    rw [show decide ((i : Int) < (es.length : Int)) = false from decide_eq_false (by omega), List.drop_eq_nil_of_le (by omega)]
    simp
  | succ k ih =>
    intro i acc h ha
    have hi : i < es.length := by omega
    have e1 : es.drop i = es.getD i default :: es.drop (i + 1) := by rw [List.drop_eq_getElem_cons hi]; simp [hi]
    have := ih (i + 1) (acc ++ [turn (es.getD i default)]) (by omega) (by simp [ha])
    rw [e1, List.map_cons, show acc ++ turn (es.getD i default) :: (es.drop (i + 1)).map turn = acc ++ [turn (es.getD i default)] ++ (es.drop (i + 1)).map turn by simp]
    refine .next ?_ this
    unfold M.law15_SpfReverse_l1
    simp only [Int.toNat_natCast]
    rw [show decide ((i : Int) < (es.length : Int)) = true from decide_eq_true (by omega), cond_true, gdT (by simp), gdT (by simp), gdT (by simp; omega), up1 (by omega)]
    rfl
theorem plain_SpfReverse (a0 : Int) (a1 : List TEdge) (a2 a3 : Int) (_w0 : (Lit.int .i64 a0).wf = true) (_w1 : a1.length ≤ maxLen ∧ a1.length * 40 ≤ reachBytes ∧ ∀ y ∈ a1, W_TEdge y) (_w2 : (Lit.int .i64 a2).wf = true) (_w3 : (Lit.int .i64 a3).wf = true) : M.law15_SpfReverse a0 a1 a2 a3 = some true := by
  unfold M.law15_SpfReverse M.law15_few
  rw [Option.bind_some]
  cases hc : ((((!((decide (a0 ≤ 12)) && (decide ((a1.length : Int) ≤ 60)))) || (decide (a2 < 0))) || (decide (a2 ≥ a0))) || (decide (a3 < 0))) || (decide (a3 ≥ a0)) with
  | true => rfl
  | false =>
    simp only [Bool.or_eq_false_iff, Bool.not_eq_false', Bool.and_eq_true, decide_eq_true_eq, decide_eq_false_iff_not] at hc
    obtain ⟨⟨⟨⟨⟨h1, h2⟩, h3⟩, h4⟩, h5⟩, h6⟩ := hc
    have hr := r_l1 (es := a1) (by omega) a1.length 0 [] (Nat.zero_add _) rfl
    rw [List.nil_append, List.drop_zero] at hr
    have hr' : loopM (M.law15_SpfReverse_l1 a1) (([] : List TEdge), 0) = some (a1.map turn) := loopM_of hr
    obtain ⟨d, hd, hD, _⟩ := dist_ok (a0 := a0) (by omega) (es := a1) (by omega) a2
    obtain ⟨e, he, hE, _⟩ := dist_ok (a0 := a0) (by omega) (es := a1.map turn) (by simp; omega) a3
    obtain ⟨n, rfl⟩ : ∃ n : Nat, a0 = n := ⟨a0.toNat, by omega⟩
    obtain ⟨x, rfl⟩ : ∃ n : Nat, a2 = n := ⟨a2.toNat, by omega⟩
    obtain ⟨y, rfl⟩ : ∃ n : Nat, a3 = n := ⟨a3.toNat, by omega⟩
    simp only [Int.toNat_natCast] at hD hE
    have hx : x < n := by omega
    have hy : y < n := by omega
    have key : d.getD y default = e.getD x default := by
      rcases Int.lt_or_le (d.getD y default) 0 with g1 | g1
      · rcases Int.lt_or_le (e.getD x default) 0 with g2 | g2
        · rw [hD.neg y hy g1, hE.neg x hx g2]
        · have := walk_turn (hE.ach x hx g2)
          rw [map_turn2] at this
          have := (hD.low y hy _ this).1
          omega
      · have g2 := hE.low x hx _ (walk_turn (hD.ach y hy g1))
        have := walk_turn (hE.ach x hx g2.1)
        rw [map_turn2] at this
        have := hD.low y hy _ this
        omega
    rw [cond_false, hr', Option.bind_some, hd, Option.bind_some, he, Option.bind_some]
    simp only [Int.toNat_natCast]
    rw [show ((d.length : Int) == (n : Int)) = true by simp [hD.len], show ((e.length : Int) == (n : Int)) = true by simp [hE.len], key, show (e.getD x default == e.getD x default) = true by simp]
    simp only [gc, Bool.and_self, cond_true]
    rw [sane_some, Option.bind_some, gdT (by simp [guardB, hD.len, hE.len]; omega)]
    rfl
end Nv
