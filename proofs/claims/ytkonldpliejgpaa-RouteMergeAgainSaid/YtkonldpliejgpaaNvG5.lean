/- The reference's Merge: what it gives. No condition. -/
import Derived.Test.YtkonldpliejgpaaNvG4
set_option maxRecDepth 10000
namespace Nv
open Go Go.Sort Go.Proofs
noncomputable def fb (p : TPrefix) (o : Option TRoute) (x : TRoute) : Option TRoute :=
  bif sameP p x then (match o with | none => some x | some b => some (bst b x)) else o
theorem fb_fold (p : TPrefix) : ∀ (l : List TRoute) (b : TRoute), l.foldl (fb p) (some b) = some ((l.filter (sameP p)).foldl bst b)
  | [], _ => rfl
  | x :: l, b => by
    rw [List.foldl_cons]
    cases hc : sameP p x with
    | true => rw [List.filter_cons_of_pos hc, List.foldl_cons]; unfold fb; rw [hc]; exact fb_fold p l _
    | false => rw [List.filter_cons_of_neg (by rw [hc]; exact Bool.false_ne_true)]; unfold fb; rw [hc]; exact fb_fold p l b
theorem fb_all (p : TPrefix) : ∀ l : List TRoute, l.foldl (fb p) none = if l.filter (sameP p) = [] then none else some (bestOf (l.filter (sameP p)))
  | [] => rfl
  | x :: l => by
    rw [List.foldl_cons]
    cases hc : sameP p x with
    | true =>
      rw [List.filter_cons_of_pos hc, if_neg (by simp)]
      unfold fb
      rw [hc]
      exact fb_fold p l x
    | false =>
      rw [List.filter_cons_of_neg (by rw [hc]; exact Bool.false_ne_true)]
      unfold fb
      rw [hc]
      exact fb_all p l
def Ix (l : List TRoute) (bi : Int) (o : Option TRoute) : Prop := (bi = -1 ∧ o = none) ∨ ∃ j : Nat, bi = (j : Int) ∧ j < l.length ∧ o = some (l.getD j default)
section
variable {l : List TRoute} {ps : List TPrefix} {acc : List TRoute} {k : Nat}
theorem rm_l2 (hl : l.length ≤ 500) (hk : k < ps.length) (hL : ∀ x ∈ l, L_TRoute x) (hE : ∀ x ∈ l, ∀ y ∈ l, S.ref15_Prefer x y = S.route_Prefer x y) : ∀ (n i : Nat) (bi : Int) (o : Option TRoute), i + n = l.length → Ix l bi o →
    ∃ bi', Iter (M.ref15_Merge_l2 l ps (acc, (k : Int))) (bi, (i : Int)) bi' ∧ Ix l bi' ((l.drop i).foldl (fb (ps.getD k default)) o) := by
  intro n
  induction n with
  | zero =>
    intro i bi o h1 h2
    refine ⟨bi, .out ?_, by rw [List.drop_eq_nil_of_le (by omega)]; exact h2⟩
    unfold M.ref15_Merge_l2
    rw [show decide ((i : Int) < (l.length : Int)) = false from decide_eq_false (by omega), cond_false]
  | succ n ih =>
    intro i bi o h1 h2
    have hi : i < l.length := by omega
    have hx := rget_mem hi
    have hup : wr .i64 ((i : Int) + 1) = ((i + 1 : Nat) : Int) := by rw [wrN (by omega) (by omega)]; omega
    have hd : l.drop i = l.getD i default :: l.drop (i + 1) := by rw [List.drop_eq_getElem_cons hi]; simp [hi]
    have d1 : decide ((i : Int) < (l.length : Int)) = true := decide_eq_true (by omega)
    have d2 : decide (0 ≤ (i : Int)) = true := decide_eq_true (by omega)
    have d3 : decide (0 ≤ (k : Int)) = true := decide_eq_true (by omega)
    have d4 : decide ((k : Int) < (ps.length : Int)) = true := decide_eq_true (by omega)
    rw [hd, List.foldl_cons]
    have un : M.ref15_Merge_l2 l ps (acc, (k : Int)) (bi, (i : Int)) = (gc (sameP (ps.getD k default) (l.getD i default) && !(decide (bi < 0))) (M.ref15_Prefer (l.getD i default) (l.getD bi.toNat default))).bind fun r7 => gd [true, true, true, true, guardB (sameP (ps.getD k default) (l.getD i default) && !(decide (bi < 0))) true, guardB (sameP (ps.getD k default) (l.getD i default) && !(decide (bi < 0))) true, guardB (sameP (ps.getD k default) (l.getD i default) && !(decide (bi < 0))) (decide (0 ≤ bi)), guardB (sameP (ps.getD k default) (l.getD i default) && !(decide (bi < 0))) (decide (bi < (l.length : Int)))] (bif sameP (ps.getD k default) (l.getD i default) && (decide (bi < 0) || decide (r7 < 0)) then some (.inl ((i : Int), ((i + 1 : Nat) : Int))) else some (.inl (bi, ((i + 1 : Nat) : Int)))) := by
      unfold M.ref15_Merge_l2 M.ref15_Merge_k1
      simp only [Int.toNat_natCast, hup, d1, d2, d3, d4, cond_true]
      rfl
    rcases h2 with ⟨rfl, rfl⟩ | ⟨j, rfl, hj, rfl⟩
    · rw [show decide ((-1 : Int) < 0) = true by decide] at un
      simp only [Bool.not_true, Bool.and_false, gc, cond_false, Option.bind_some, guardB, Bool.true_or, Bool.and_true] at un
      rw [gdT (by simp)] at un
      cases hc : sameP (ps.getD k default) (l.getD i default) with
      | true =>
        rw [hc] at un
        obtain ⟨bi', q1, q2⟩ := ih (i + 1) (i : Int) (some (l.getD i default)) (by omega) (.inr ⟨i, rfl, hi, rfl⟩)
        refine ⟨bi', .next un q1, ?_⟩
        unfold fb
        rw [hc]
        exact q2
      | false =>
        rw [hc] at un
        obtain ⟨bi', q1, q2⟩ := ih (i + 1) (-1) none (by omega) (.inl ⟨rfl, rfl⟩)
        refine ⟨bi', .next un q1, ?_⟩
        have e : fb (ps.getD k default) none (l.getD i default) = none := by unfold fb; rw [hc]; rfl
        rw [e]
        exact q2
    · rw [show decide ((j : Int) < 0) = false from decide_eq_false (by omega), show decide (0 ≤ (j : Int)) = true from decide_eq_true (by omega), show decide ((j : Int) < (l.length : Int)) = true from decide_eq_true (by omega)] at un
      simp only [Bool.not_false, Bool.and_true, Int.toNat_natCast, Bool.false_or] at un
      cases hc : sameP (ps.getD k default) (l.getD i default) with
      | true =>
        rw [hc] at un
        simp only [gc, cond_true, Bool.true_and] at un
        rw [s_ref15_Prefer _ _ (hL _ hx) (hL _ (rget_mem hj)), Option.bind_some, hE _ hx _ (rget_mem hj), gdT (by simp [guardB])] at un
        have e : fb (ps.getD k default) (some (l.getD j default)) (l.getD i default) = some (bst (l.getD j default) (l.getD i default)) := by unfold fb; rw [hc]; rfl
        rw [e]
        unfold bst
        cases hb : decide (S.route_Prefer (l.getD i default) (l.getD j default) < 0) with
        | true =>
          rw [hb] at un
          obtain ⟨bi', q1, q2⟩ := ih (i + 1) (i : Int) (some (l.getD i default)) (by omega) (.inr ⟨i, rfl, hi, rfl⟩)
          exact ⟨bi', .next un q1, q2⟩
        | false =>
          rw [hb] at un
          obtain ⟨bi', q1, q2⟩ := ih (i + 1) (j : Int) (some (l.getD j default)) (by omega) (.inr ⟨j, rfl, hj, rfl⟩)
          exact ⟨bi', .next un q1, q2⟩
      | false =>
        rw [hc] at un
        simp only [gc, cond_false, Option.bind_some, Bool.false_and] at un
        rw [gdT (by simp [guardB])] at un
        obtain ⟨bi', q1, q2⟩ := ih (i + 1) (j : Int) (some (l.getD j default)) (by omega) (.inr ⟨j, rfl, hj, rfl⟩)
        refine ⟨bi', .next un q1, ?_⟩
        have e : fb (ps.getD k default) (some (l.getD j default)) (l.getD i default) = some (l.getD j default) := by unfold fb; rw [hc]; rfl
        rw [e]
        exact q2
end
end Nv
