/- Redistribution in plain terms. No condition. -/
import Derived.Test.YtghjgndlgliieaaNvT1
import Derived.Test.YtghjgndlgliieaaNvLibB
import Derived.Test.YtghjgndlgliieaaNvLibC
set_option maxRecDepth 100000
namespace Nv
open Go
noncomputable def fz (r : TRouter) (d : TRedist) (y : TRoute) : TRoute × Bool :=
  bif y.fProto == 3 then (bif d.fType == 1 then ({ y with fClass := 3 }, true) else ({ y with fClass := 4 }, true)) else bif y.fProto == 4 then ({ y with fClass := 2, fAdmin := r.fDV.fAdmin }, decide (y.fMetric ≥ 1) && decide (y.fMetric ≤ 15)) else
  bif y.fProto == 5 then ({ y with fClass := 1, fAdmin := r.fPV.fInternal, fPref := 100 }, true) else (y, false)
theorem finish_eq (r : TRouter) (d : TRedist) (y : TRoute) : M.rib_finish r d y = some ([(fz r d y).1], (fz r d y).2) := by
  unfold M.rib_finish fz M.rib_finish_k1
  cases y.fProto == 3 <;> cases y.fProto == 4 <;> cases y.fProto == 5 <;> cases d.fType == 1 <;> rfl
def raw (x : TRoute) (p m g : Int) : TRoute := ⟨x.fPrefix, p, 0, 0, m, 0, g, 0, [], 0, 0, [], false⟩
noncomputable def put (r : TRouter) (d : TRedist) (x : TRoute) (p m g : Int) : List TRoute := bif (fz r d (raw x p m g)).2 then [(fz r d (raw x p m g)).1] else []
noncomputable def one (r : TRouter) (d : TRedist) (x : TRoute) (p : Int) : List TRoute :=
  bif x.fDiscard && (x.fProto != 2) then [] else bif !(S.rib_values r d x).2.2 then [] else put r d x p (S.rib_values r d x).1 (S.rib_values r d x).2.1
noncomputable def opt1 (r : TRouter) (x : TRoute) (p : Int) : Option TRedist → List TRoute
  | none => []
  | some d => one r d x p
noncomputable def redOf (r : TRouter) (l : List TRedist) (p : Int) (x : TRoute) : List TRoute := opt1 r x p (l.find? fun d => d.fFrom == x.fProto)
theorem put_len (r : TRouter) (d : TRedist) (x : TRoute) (p m g : Int) : (put r d x p m g).length ≤ 1 := by
  unfold put; cases (fz r d (raw x p m g)).2 <;> simp
theorem one_len (r : TRouter) (d : TRedist) (x : TRoute) (p : Int) : (one r d x p).length ≤ 1 := by
  unfold one
  cases x.fDiscard && (x.fProto != 2)
  · cases !(S.rib_values r d x).2.2
    · exact put_len _ _ _ _ _ _
    · simp
  · simp
theorem opt1_len (r : TRouter) (x : TRoute) (p : Int) (o : Option TRedist) : (opt1 r x p o).length ≤ 1 := by
  cases o with
  | none => simp [opt1]
  | some d => exact one_len r d x p
theorem gmem {α : Type} [Inhabited α] {l : List α} {i : Nat} (hi : i < l.length) : l.getD i default ∈ l := by rw [List.getD_eq_getElem?_getD, List.getElem?_eq_getElem hi]; exact List.getElem_mem hi
theorem gdrop {α : Type} [Inhabited α] {l : List α} {i : Nat} (hi : i < l.length) : l.drop i = l.getD i default :: l.drop (i + 1) := by rw [List.drop_eq_getElem_cons hi]; simp [hi]
theorem up1 {i : Nat} (h : i ≤ 100000) : wr .i64 ((i : Int) + 1) = ((i + 1 : Nat) : Int) := by rw [wrN (by omega) (by omega)]; omega
theorem p_l2 {l : List TRedist} {t : List TRoute} {p1 : (List TRoute) × Int} (hl : l.length ≤ 1000) : ∀ (n j : Nat), j + n = l.length →
    ∃ y, Iter (M.rib_Redistribute_l2 l t p1) ((-1), (j : Int)) y ∧ ((y = -1 ∧ (l.drop j).find? (fun d => d.fFrom == (t.getD p1.2.toNat default).fProto) = none) ∨ ∃ k : Nat, y = (k : Int) ∧ k < l.length ∧ (l.drop j).find? (fun d => d.fFrom == (t.getD p1.2.toNat default).fProto) = some (l.getD k default)) := by
  intro n
  induction n with
  | zero =>
    intro j h
    refine ⟨-1, .out ?_, .inl ⟨rfl, by rw [List.drop_eq_nil_of_le (by omega)]; rfl⟩⟩
    unfold M.rib_Redistribute_l2
    rw [show decide ((j : Int) < (l.length : Int)) = false from decide_eq_false (by omega)]
    rfl
  | succ n ih =>
    intro j h
    have hj : j < l.length := by omega
    have st : M.rib_Redistribute_l2 l t p1 ((-1), (j : Int)) = bif (l.getD j default).fFrom == (t.getD p1.2.toNat default).fProto then some (.inr (j : Int)) else some (.inl ((-1), ((j + 1 : Nat) : Int))) := by
      unfold M.rib_Redistribute_l2
      simp only [Int.toNat_natCast]
      rw [show decide ((j : Int) < (l.length : Int)) = true from decide_eq_true (by omega), cond_true, gdT (by simp), up1 (by omega)]
    rw [gdrop hj]
    cases hc : (l.getD j default).fFrom == (t.getD p1.2.toNat default).fProto with
    | true =>
      rw [hc] at st
      exact ⟨(j : Int), .out st, .inr ⟨j, rfl, hj, by rw [List.find?_cons_of_pos (by exact hc)]⟩⟩
    | false =>
      rw [hc] at st
      obtain ⟨y, h1, h2⟩ := ih (j + 1) (by omega)
      refine ⟨y, .next st h1, ?_⟩
      rw [List.find?_cons_of_neg (by rw [hc]; exact Bool.false_ne_true)]
      exact h2
theorem p_l1 {r : TRouter} {l : List TRedist} {t : List TRoute} {p : Int} (hr : L_TRouter r) (hl : l.length ≤ 1000) (hL : ∀ d ∈ l, L_TRedist d) (ht : t.length ≤ 1000) (hT : ∀ x ∈ t, L_TRoute x) {i : Nat} (hi : i < t.length) {out : List TRoute} (ho : out.length ≤ i) :
    M.rib_Redistribute_l1 r l t p (out, (i : Int)) = some (.inl (out ++ redOf r l p (t.getD i default), ((i + 1 : Nat) : Int))) := by
  obtain ⟨y, h1, h2⟩ := p_l2 (t := t) (p1 := (out, (i : Int))) hl l.length 0 (Nat.zero_add _)
  simp only [Int.toNat_natCast, List.drop_zero] at h2
  unfold M.rib_Redistribute_l1 M.rib_Redistribute_k1
  simp only [Int.toNat_natCast]
  rw [show decide ((i : Int) < (t.length : Int)) = true from decide_eq_true (by omega), cond_true, gdT (by simp), show ((0 : Int)) = ((0 : Nat) : Int) from rfl, loopM_of h1, Option.bind_some, up1 (by omega)]
  unfold redOf
  rcases h2 with ⟨rfl, h2⟩ | ⟨k, rfl, hk, h2⟩
  · rw [h2]
    simp [opt1]
  · rw [h2]
    simp only [Int.toNat_natCast, opt1, one]
    rw [show decide ((k : Int) < ((0 : Nat) : Int)) = false from decide_eq_false (by omega), Bool.false_or]
    cases hd : (t.getD i default).fDiscard && ((t.getD i default).fProto != 2) with
    | true => simp
    | false =>
      simp only [cond_false]
      rw [s_rib_values _ _ _ hr (hL _ (gmem hk)) (hT _ (gmem hi)), Option.bind_some, gdT (by simp; omega)]
      generalize S.rib_values r (l.getD k default) (t.getD i default) = v
      cases hv : !v.2.2 with
      | true => simp
      | false =>
        simp only [cond_false]
        rw [gdT (by simp; omega), finish_eq, Option.bind_some, gdT (by simp)]
        show (bif (fz r (l.getD k default) (raw (t.getD i default) p v.1 v.2.1)).2 then _ else _) = _
        unfold put
        cases (fz r (l.getD k default) (raw (t.getD i default) p v.1 v.2.1)).2 with
        | true =>
          simp only [cond_true]
          rw [gdT (by simp; omega)]
          rfl
        | false => simp
theorem p_run {r : TRouter} {l : List TRedist} {t : List TRoute} {p : Int} (hr : L_TRouter r) (hl : l.length ≤ 1000) (hL : ∀ d ∈ l, L_TRedist d) (ht : t.length ≤ 1000) (hT : ∀ x ∈ t, L_TRoute x) : ∀ (n i : Nat) (out : List TRoute), i + n = t.length → out.length ≤ i →
    Iter (M.rib_Redistribute_l1 r l t p) (out, (i : Int)) (out ++ (t.drop i).flatMap (redOf r l p)) := by
  intro n
  induction n with
  | zero =>
    intro i out h _
    rw [List.drop_eq_nil_of_le (by omega)]
    refine .out ?_
    unfold M.rib_Redistribute_l1
    rw [show decide ((i : Int) < (t.length : Int)) = false from decide_eq_false (by omega)]
    simp
  | succ n ih =>
    intro i out h ho
    have hi : i < t.length := by omega
    rw [gdrop hi, List.flatMap_cons, ← List.append_assoc]
    have := opt1_len r (t.getD i default) p (l.find? fun d => d.fFrom == (t.getD i default).fProto)
    exact .next (p_l1 hr hl hL ht hT hi ho) (ih (i + 1) _ (by omega) (by rw [List.length_append]; unfold redOf; omega))
theorem p_eq {r : TRouter} {l : List TRedist} {t : List TRoute} {p : Int} (hr : L_TRouter r) (hl : l.length ≤ 1000) (hL : ∀ d ∈ l, L_TRedist d) (ht : t.length ≤ 1000) (hT : ∀ x ∈ t, L_TRoute x) : M.rib_Redistribute r l t p = some (t.flatMap (redOf r l p)) := by
  unfold M.rib_Redistribute
  have := p_run (p := p) hr hl hL ht hT t.length 0 [] (Nat.zero_add _) (Nat.zero_le _)
  rw [show ((0 : Int)) = ((0 : Nat) : Int) from rfl, loopM_of this, Option.bind_some]
  rfl
end Nv
