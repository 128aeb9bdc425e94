/- The plain law of SpfMore: what one more edge changes. -/
import Derived.Test.YtlhpjcjjnbfmbaaNvY2
import Derived.Test.YtlhpjcjjnbfmbaaNvV1
import Derived.Test.YtlhpjcjjnbfmbaaNvS1
set_option maxRecDepth 100000
namespace Nv
open Go
theorem walk_more {n : Nat} {es : List TEdge} {m : TEdge} (hm : Us n m) {x y c : Int} (h : Walk n (es ++ [m]) x y c) : (∃ k, Walk n es x y k ∧ k ≤ c) ∨ ∃ k l, Walk n es x m.fFrom k ∧ Walk n es m.fTo y l ∧ k + m.fCost + l ≤ c := by
  induction h with
  | nil => exact .inl ⟨0, .nil, Int.le_refl _⟩
  | snoc h e he hu hf ih =>
    have hc := hm.c0
    have hec := hu.c0
    rcases List.mem_append.1 he with he | he
    · rcases ih with ⟨k, h1, h2⟩ | ⟨k, l, h1, h2, h3⟩
      · exact .inl ⟨k + e.fCost, .snoc h1 e he hu hf, by omega⟩
      · exact .inr ⟨k, l + e.fCost, h1, .snoc h2 e he hu hf, by omega⟩
    · obtain rfl := List.mem_singleton.1 he
      rcases ih with ⟨k, h1, h2⟩ | ⟨k, l, h1, h2, h3⟩
      · exact .inr ⟨k, 0, by rw [hf]; exact h1, .nil, by omega⟩
      · have := h2.nonneg
        exact .inr ⟨k, 0, h1, .nil, by omega⟩
theorem plain_SpfMore (a0 : Int) (a1 : List TEdge) (a2 : TEdge) (a3 : Int) (_w0 : (Lit.int .i64 a0).wf = true) (_w1 : a1.length ≤ maxLen ∧ a1.length * 40 ≤ reachBytes ∧ ∀ y ∈ a1, W_TEdge y) (_w2 : W_TEdge a2) (_w3 : (Lit.int .i64 a3).wf = true) : M.law15_SpfMore a0 a1 a2 a3 = some true := by
  unfold M.law15_SpfMore M.law15_few M.law15_counts
  rw [Option.bind_some]
  cases hf : ((decide (a0 ≤ 12)) && (decide ((a1.length : Int) ≤ 60))) with
  | false => rfl
  | true =>
    simp only [Bool.and_eq_true, decide_eq_true_eq] at hf
    obtain ⟨h1, h2⟩ := hf
    simp only [gc, Bool.not_true, Bool.not_false, cond_true, Option.bind_some, Bool.false_or]
    cases hc : ((!((((((decide (a2.fFrom ≥ 0)) && (decide (a2.fFrom < a0))) && (decide (a2.fTo ≥ 0))) && (decide (a2.fTo < a0))) && (decide (a2.fCost ≥ 1))) && (decide (a2.fCost ≤ 16777215)))) || (decide (a3 < 0))) || (decide (a3 ≥ a0)) with
    | true => rfl
    | false =>
      simp only [Bool.or_eq_false_iff, Bool.not_eq_false', Bool.and_eq_true, decide_eq_true_eq, decide_eq_false_iff_not] at hc
      obtain ⟨⟨⟨⟨⟨⟨⟨c1, c2⟩, c3⟩, c4⟩, c5⟩, c6⟩, h3⟩, h4⟩ := hc
      obtain ⟨d, hd, hD, bD⟩ := dist_ok (a0 := a0) (by omega) (es := a1) (by omega) a3
      obtain ⟨e, he, hE, bE⟩ := dist_ok (a0 := a0) (by omega) (es := a1 ++ [a2]) (by simp; omega) a3
      obtain ⟨r, hr, hR, bR⟩ := dist_ok (a0 := a0) (by omega) (es := a1) (by omega) a2.fTo
      obtain ⟨n, rfl⟩ : ∃ n : Nat, a0 = n := ⟨a0.toNat, by omega⟩
      obtain ⟨x, rfl⟩ : ∃ n : Nat, a3 = n := ⟨a3.toNat, by omega⟩
      simp only [Int.toNat_natCast] at hD hE hR bD bE bR
      have hx : x < n := by omega
      have hu : Us n a2 := ⟨c1, by omega, c3, by omega, c5, c6⟩
      have hfn : a2.fFrom.toNat < n := by omega
      have hm : ∀ {x y c : Int}, Walk n a1 x y c → Walk n (a1 ++ [a2]) x y c := fun h => h.mono fun e he => List.mem_append_left _ he
      have hfr : 0 ≤ d.getD a2.fFrom.toNat default → Walk n a1 (x : Int) a2.fFrom (d.getD a2.fFrom.toNat default) := fun h => by
        have := hD.ach _ hfn h
        rwa [Int.toNat_of_nonneg c1] at this
      have via : ∀ i, i < n → 0 ≤ d.getD a2.fFrom.toNat default → 0 ≤ r.getD i default → 0 ≤ e.getD i default ∧ e.getD i default ≤ d.getD a2.fFrom.toNat default + a2.fCost + r.getD i default := fun i hi g1 g2 =>
        hE.low i hi _ (((hm (hfr g1)).append (Walk.one (List.mem_append_right _ (List.mem_singleton.2 rfl)) hu)).append (hm (hR.ach i hi g2)))
      have old : ∀ i, i < n → 0 ≤ d.getD i default → 0 ≤ e.getD i default ∧ e.getD i default ≤ d.getD i default := fun i hi g => hE.low i hi _ (hm (hD.ach i hi g))
      have new : ∀ i, i < n → 0 ≤ e.getD i default → (0 ≤ d.getD i default ∧ d.getD i default ≤ e.getD i default) ∨ (0 ≤ d.getD a2.fFrom.toNat default ∧ 0 ≤ r.getD i default ∧ d.getD a2.fFrom.toNat default + a2.fCost + r.getD i default ≤ e.getD i default) := fun i hi g => by
        rcases walk_more hu (hE.ach i hi g) with ⟨k, g1, g2⟩ | ⟨k, l, g1, g2, g3⟩
        · have := hD.low i hi k g1; exact .inl ⟨this.1, by omega⟩
        · have g4 := hD.low a2.fFrom.toNat hfn k (by rw [Int.toNat_of_nonneg c1]; exact g1)
          have g5 := hR.low i hi l g2
          exact .inr ⟨g4.1, g5.1, by omega⟩
      rw [cond_false, hd, Option.bind_some, gdT (by simp; omega), he, Option.bind_some, hr, Option.bind_some]
      rw [show ((d.length : Int) != (n : Int)) = false by simp [hD.len], show ((e.length : Int) != (n : Int)) = false by simp [hE.len], show ((r.length : Int) != (n : Int)) = false by simp [hR.len]]
      simp only [Bool.or_self, cond_false]
      have loop : ∀ (k i : Nat), i + k = n → Iter (M.law15_SpfMore_l1 (n : Int) a2 d e r) (i : Int) (.inl ()) := by
        intro k
        induction k with
        | zero =>
          intro i h
          refine .out ?_
          unfold M.law15_SpfMore_l1
          rw [show decide ((i : Int) < (n : Int)) = false from decide_eq_false (by omega)]
          rfl
        | succ k ih =>
          intro i h
          have hi : i < n := by omega
          have hld := hD.len
          have hle := hE.len
          have hlr := hR.len
          have b1 := bD _ hfn
          have b2 := bR i hi
          have go : ∀ w : Int, e.getD i default = w → M.law15_SpfMore_k1 e (i : Int) w = some (.inl ((i + 1 : Nat) : Int)) := fun w hw => by
            unfold M.law15_SpfMore_k1
            simp only [Int.toNat_natCast]
            rw [gdT (by simp; omega), show (e.getD i default != w) = false by rw [hw]; exact bne_self_eq_false w, cond_false, up1 (by omega)]
          refine .next ?_ (ih (i + 1) (by omega))
          unfold M.law15_SpfMore_l1
          simp only [Int.toNat_natCast]
          have q1 : decide (0 ≤ a2.fFrom) = true := decide_eq_true c1
          have q2 : decide (a2.fFrom < (d.length : Int)) = true := decide_eq_true (by omega)
          have q3 : decide (0 ≤ (i : Int)) = true := decide_eq_true (by omega)
          have q4 : decide ((i : Int) < (r.length : Int)) = true := decide_eq_true (by omega)
          rw [show decide ((i : Int) < (n : Int)) = true from decide_eq_true (by omega), cond_true, gdT (by simp; omega), gdT (by
            simp only [List.all_cons, List.all_nil, q1, q2, q3, q4, guardB_t, id, Bool.and_self])]
          have n1 := hD.neg i hi
          by_cases g1 : 0 ≤ d.getD a2.fFrom.toNat default
          · by_cases g2 : 0 ≤ r.getD i default
            · have hw1 : wr .i64 (d.getD a2.fFrom.toNat default + a2.fCost) = d.getD a2.fFrom.toNat default + a2.fCost := wrN (by omega) (by omega)
              have hw2 : wr .i64 (d.getD a2.fFrom.toNat default + a2.fCost + r.getD i default) = d.getD a2.fFrom.toNat default + a2.fCost + r.getD i default := wrN (by omega) (by omega)
              simp only [hw1, hw2]
              rw [decide_eq_true (show d.getD a2.fFrom.toNat default ≥ 0 from g1), decide_eq_true (show r.getD i default ≥ 0 from g2)]
              have v := via i hi g1 g2
              by_cases g3 : d.getD i default < 0 ∨ d.getD a2.fFrom.toNat default + a2.fCost + r.getD i default < d.getD i default
              · rw [show ((decide (d.getD i default < 0)) || (decide (d.getD a2.fFrom.toNat default + a2.fCost + r.getD i default < d.getD i default))) = true by simpa using g3]
                simp only [Bool.and_self, cond_true]
                rw [gdT (by simp only [List.all_cons, List.all_nil, q1, q2, q3, q4, id, Bool.and_self])]
                refine go _ ?_
                rcases new i hi v.1 with g4 | g4 <;> omega
              · rw [show ((decide (d.getD i default < 0)) || (decide (d.getD a2.fFrom.toNat default + a2.fCost + r.getD i default < d.getD i default))) = false by simpa using g3]
                simp only [Bool.and_false, cond_false]
                refine go _ ?_
                have g5 := old i hi (by omega)
                rcases new i hi g5.1 with g4 | g4 <;> omega
            · rw [decide_eq_false (show ¬ r.getD i default ≥ 0 from g2)]
              simp only [Bool.and_false, Bool.false_and, cond_false]
              refine go _ ?_
              rcases Int.lt_or_le (e.getD i default) 0 with g6 | g6
              · have := hE.neg i hi g6
                rcases Int.lt_or_le (d.getD i default) 0 with g7 | g7
                · rw [n1 g7]; omega
                · have := old i hi g7; omega
              · rcases new i hi g6 with g4 | g4
                · have := old i hi g4.1; omega
                · omega
          · rw [decide_eq_false (show ¬ d.getD a2.fFrom.toNat default ≥ 0 from g1)]
            simp only [Bool.false_and, cond_false]
            refine go _ ?_
            rcases Int.lt_or_le (e.getD i default) 0 with g6 | g6
            · have := hE.neg i hi g6
              rcases Int.lt_or_le (d.getD i default) 0 with g7 | g7
              · rw [n1 g7]; omega
              · have := old i hi g7; omega
            · rcases new i hi g6 with g4 | g4
              · have := old i hi g4.1; omega
              · omega
      have hl : loopM (M.law15_SpfMore_l1 (n : Int) a2 d e r) 0 = some (.inl ()) := loopM_of (loop n 0 (Nat.zero_add _))
      rw [hl, Option.bind_some]
      simp only [Sum.elim_inl]
      rw [sane_some]
      rfl
end Nv
