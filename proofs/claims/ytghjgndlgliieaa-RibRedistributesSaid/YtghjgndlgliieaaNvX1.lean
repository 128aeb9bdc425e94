/- Redistribution in plain terms. No condition. -/
import Derived.Test.YtghjgndlgliieaaNvT1
import Derived.Test.YtghjgndlgliieaaNvLibB
import Derived.Test.YtghjgndlgliieaaNvLibC
set_option maxRecDepth 100000
namespace Nv
open Go
theorem clause_lt {a : TRouter} {n : ByteArray} (x : TRoute) (h : ¬ S.ref8_RouteMap a n < 0) : S.ref8_Clause a n x < ((a.fMaps.getD (S.ref8_RouteMap a n).toNat default).fClauses.length : Int) := by
  unfold S.ref8_Clause
  simp only [letS]
  rw [decide_eq_false h, cond_false]
  exact idx_lt (fun i => by
    unfold S.ref8_Clause_l1
    simp only [letS]
    generalize (_ && _ : Bool) = b
    cases b <;> simp) _
theorem clause_neg {a : TRouter} {n : ByteArray} (x : TRoute) (h : S.ref8_RouteMap a n < 0) : S.ref8_Clause a n x = -1 := by
  unfold S.ref8_Clause
  simp only [letS]
  rw [decide_eq_true h, cond_true]
noncomputable def fz (r : TRouter) (d : TRedist) (y : TRoute) : TRoute × Bool :=
  bif y.fProto == 3 then (bif d.fType == 1 then ({ y with fClass := 3 }, true) else ({ y with fClass := 4 }, true)) else bif y.fProto == 4 then ({ y with fClass := 2, fAdmin := r.fDV.fAdmin }, decide (y.fMetric ≥ 1) && decide (y.fMetric ≤ 15)) else
  bif y.fProto == 5 then ({ y with fClass := 1, fAdmin := r.fPV.fInternal, fPref := 100 }, true) else (y, false)
theorem finish_eq (r : TRouter) (d : TRedist) (y : TRoute) : M.rib_finish r d y = some ([(fz r d y).1], (fz r d y).2) := by
  unfold M.rib_finish fz M.rib_finish_k1
  cases y.fProto == 3 <;> cases y.fProto == 4 <;> cases y.fProto == 5 <;> cases d.fType == 1 <;> rfl
def raw (x : TRoute) (p m g : Int) : TRoute := ⟨x.fPrefix, p, 0, 0, m, 0, g, 0, [], 0, 0, [], false⟩
noncomputable def put (r : TRouter) (d : TRedist) (x : TRoute) (p m g : Int) : List TRoute := bif (fz r d (raw x p m g)).2 then [(fz r d (raw x p m g)).1] else []
noncomputable def one (r : TRouter) (d : TRedist) (x : TRoute) (p : Int) : List TRoute :=
  bif x.fDiscard && (x.fProto != 2) then [] else bif !(S.rib_values r d x).2.2 then [] else put r d x p (S.rib_values r d x).1 (S.rib_values r d x).2.1
noncomputable def opt1 (r : TRouter) (x : TRoute) (p : Int) : Option TRedist → List TRoute
  | none => []
  | some d => one r d x p
noncomputable def redOf (r : TRouter) (l : List TRedist) (p : Int) (x : TRoute) : List TRoute := opt1 r x p (l.find? fun d => d.fFrom == x.fProto)
theorem put_len (r : TRouter) (d : TRedist) (x : TRoute) (p m g : Int) : (put r d x p m g).length ≤ 1 := by
  unfold put; cases (fz r d (raw x p m g)).2 <;> simp
theorem one_len (r : TRouter) (d : TRedist) (x : TRoute) (p : Int) : (one r d x p).length ≤ 1 := by
  unfold one
  cases x.fDiscard && (x.fProto != 2)
  · cases !(S.rib_values r d x).2.2
    · exact put_len _ _ _ _ _ _
    · simp
  · simp
theorem opt1_len (r : TRouter) (x : TRoute) (p : Int) (o : Option TRedist) : (opt1 r x p o).length ≤ 1 := by
  cases o with
  | none => simp [opt1]
  | some d => exact one_len r d x p
theorem gmem {α : Type} [Inhabited α] {l : List α} {i : Nat} (hi : i < l.length) : l.getD i default ∈ l := by rw [List.getD_eq_getElem?_getD, List.getElem?_eq_getElem hi]; exact List.getElem_mem hi
theorem gdrop {α : Type} [Inhabited α] {l : List α} {i : Nat} (hi : i < l.length) : l.drop i = l.getD i default :: l.drop (i + 1) := by rw [List.drop_eq_getElem_cons hi]; simp [hi]
theorem up1 {i : Nat} (h : i ≤ 100000) : wr .i64 ((i : Int) + 1) = ((i + 1 : Nat) : Int) := by rw [wrN (by omega) (by omega)]; omega
theorem p_l2 {l : List TRedist} {t : List TRoute} {p1 : (List TRoute) × Int} (hl : l.length ≤ 1000) : ∀ (n j : Nat), j + n = l.length →
    ∃ y, Iter (M.rib_Redistribute_l2 l t p1) ((-1), (j : Int)) y ∧ ((y = -1 ∧ (l.drop j).find? (fun d => d.fFrom == (t.getD p1.2.toNat default).fProto) = none) ∨ ∃ k : Nat, y = (k : Int) ∧ k < l.length ∧ (l.drop j).find? (fun d => d.fFrom == (t.getD p1.2.toNat default).fProto) = some (l.getD k default)) := by
  intro n
  induction n with
  | zero =>
    intro j h
    refine ⟨-1, .out ?_, .inl ⟨rfl, by rw [List.drop_eq_nil_of_le (by omega)]; rfl⟩⟩
    unfold M.rib_Redistribute_l2
    rw [show decide ((j : Int) < (l.length : Int)) = false from decide_eq_false (by omega)]
    rfl
  | succ n ih =>
    intro j h
    have hj : j < l.length := by omega
    have st : M.rib_Redistribute_l2 l t p1 ((-1), (j : Int)) = bif (l.getD j default).fFrom == (t.getD p1.2.toNat default).fProto then some (.inr (j : Int)) else some (.inl ((-1), ((j + 1 : Nat) : Int))) := by
      unfold M.rib_Redistribute_l2
      simp only [Int.toNat_natCast]
      rw [show decide ((j : Int) < (l.length : Int)) = true from decide_eq_true (by omega), cond_true, gdT (by simp), up1 (by omega)]
    rw [gdrop hj]
    cases hc : (l.getD j default).fFrom == (t.getD p1.2.toNat default).fProto with
    | true =>
      rw [hc] at st
      exact ⟨(j : Int), .out st, .inr ⟨j, rfl, hj, by rw [List.find?_cons_of_pos (by exact hc)]⟩⟩
    | false =>
      rw [hc] at st
      obtain ⟨y, h1, h2⟩ := ih (j + 1) (by omega)
      refine ⟨y, .next st h1, ?_⟩
      rw [List.find?_cons_of_neg (by rw [hc]; exact Bool.false_ne_true)]
      exact h2
theorem p_l1 {r : TRouter} {l : List TRedist} {t : List TRoute} {p : Int} (hr : L_TRouter r) (hl : l.length ≤ 1000) (hL : ∀ d ∈ l, L_TRedist d) (ht : t.length ≤ 1000) (hT : ∀ x ∈ t, L_TRoute x) {i : Nat} (hi : i < t.length) {out : List TRoute} (ho : out.length ≤ i) :
    M.rib_Redistribute_l1 r l t p (out, (i : Int)) = some (.inl (out ++ redOf r l p (t.getD i default), ((i + 1 : Nat) : Int))) := by
  obtain ⟨y, h1, h2⟩ := p_l2 (t := t) (p1 := (out, (i : Int))) hl l.length 0 (Nat.zero_add _)
  simp only [Int.toNat_natCast, List.drop_zero] at h2
  unfold M.rib_Redistribute_l1 M.rib_Redistribute_k1
  simp only [Int.toNat_natCast]
  rw [show decide ((i : Int) < (t.length : Int)) = true from decide_eq_true (by omega), cond_true, gdT (by simp), show ((0 : Int)) = ((0 : Nat) : Int) from rfl, loopM_of h1, Option.bind_some, up1 (by omega)]
  unfold redOf
  rcases h2 with ⟨rfl, h2⟩ | ⟨k, rfl, hk, h2⟩
  · rw [h2]
    simp [opt1]
  · rw [h2]
    simp only [Int.toNat_natCast, opt1, one]
    rw [show decide ((k : Int) < ((0 : Nat) : Int)) = false from decide_eq_false (by omega), Bool.false_or]
    cases hd : (t.getD i default).fDiscard && ((t.getD i default).fProto != 2) with
    | true => simp
    | false =>
      simp only [cond_false]
      rw [s_rib_values _ _ _ hr (hL _ (gmem hk)) (hT _ (gmem hi)), Option.bind_some, gdT (by simp; omega)]
      generalize S.rib_values r (l.getD k default) (t.getD i default) = v
      cases hv : !v.2.2 with
      | true => simp
      | false =>
        simp only [cond_false]
        rw [gdT (by simp; omega), finish_eq, Option.bind_some, gdT (by simp)]
        show (bif (fz r (l.getD k default) (raw (t.getD i default) p v.1 v.2.1)).2 then _ else _) = _
        unfold put
        cases (fz r (l.getD k default) (raw (t.getD i default) p v.1 v.2.1)).2 with
        | true =>
          simp only [cond_true]
          rw [gdT (by simp; omega)]
          rfl
        | false => simp
theorem p_run {r : TRouter} {l : List TRedist} {t : List TRoute} {p : Int} (hr : L_TRouter r) (hl : l.length ≤ 1000) (hL : ∀ d ∈ l, L_TRedist d) (ht : t.length ≤ 1000) (hT : ∀ x ∈ t, L_TRoute x) : ∀ (n i : Nat) (out : List TRoute), i + n = t.length → out.length ≤ i →
    Iter (M.rib_Redistribute_l1 r l t p) (out, (i : Int)) (out ++ (t.drop i).flatMap (redOf r l p)) := by
  intro n
  induction n with
  | zero =>
    intro i out h _
    rw [List.drop_eq_nil_of_le (by omega)]
    refine .out ?_
    unfold M.rib_Redistribute_l1
    rw [show decide ((i : Int) < (t.length : Int)) = false from decide_eq_false (by omega)]
    simp
  | succ n ih =>
    intro i out h ho
    have hi : i < t.length := by omega
    rw [gdrop hi, List.flatMap_cons, ← List.append_assoc]
    have := opt1_len r (t.getD i default) p (l.find? fun d => d.fFrom == (t.getD i default).fProto)
    exact .next (p_l1 hr hl hL ht hT hi ho) (ih (i + 1) _ (by omega) (by rw [List.length_append]; unfold redOf; omega))
theorem p_eq {r : TRouter} {l : List TRedist} {t : List TRoute} {p : Int} (hr : L_TRouter r) (hl : l.length ≤ 1000) (hL : ∀ d ∈ l, L_TRedist d) (ht : t.length ≤ 1000) (hT : ∀ x ∈ t, L_TRoute x) : M.rib_Redistribute r l t p = some (t.flatMap (redOf r l p)) := by
  unfold M.rib_Redistribute
  have := p_run (p := p) hr hl hL ht hT t.length 0 [] (Nat.zero_add _) (Nat.zero_le _)
  rw [show ((0 : Int)) = ((0 : Nat) : Int) from rfl, loopM_of this, Option.bind_some]
  rfl
theorem r_k2 {r : TRouter} {l : List TRedist} {t : List TRoute} {p m g : Int} {o0 out : List TRoute} {i j : Nat} (hj : j ≤ 1000) (ho : out.length ≤ 1000) :
    M.ref20_Redistribute_k2 r l t p (o0, (i : Int)) (out, (j : Int)) (m, g) = some (.inl (out ++ put r (l.getD j default) (t.getD i default) p m g, ((j + 1 : Nat) : Int))) := by
  unfold M.ref20_Redistribute_k2 M.ref20_Redistribute_k3 M.ref20_Redistribute_k1 put fz
  simp only [Int.toNat_natCast, up1 (show j ≤ 100000 by omega), show (raw (t.getD i default) p m g).fProto = p from rfl, show (raw (t.getD i default) p m g).fMetric = m from rfl]
  have hg : ∀ {β : Type} (k : Option β), gd [decide ((out.length + 1) * 136 ≤ 140737488355328)] k = k := fun k => gdT (by simp; omega)
  cases p == 3 with
  | true =>
    simp only [cond_true]
    cases (l.getD j default).fType == 1 <;> simp only [cond_true, cond_false, hg] <;> rfl
  | false =>
    simp only [cond_false]
    cases p == 4 with
    | true =>
      simp only [cond_true]
      by_cases h1 : 1 ≤ m ∧ m ≤ 15
      · rw [show decide (m < 1) = false from decide_eq_false (by omega), show decide (m > 15) = false from decide_eq_false (by omega), show decide (m ≥ 1) = true from decide_eq_true (by omega), show decide (m ≤ 15) = true from decide_eq_true (by omega)]
        simp only [Bool.or_false, Bool.and_true, cond_true, cond_false, hg]
        rfl
      · rw [show (decide (m < 1) || decide (m > 15)) = true by simp; omega, show (decide (m ≥ 1) && decide (m ≤ 15)) = false by simp; omega]
        simp
    | false =>
      simp only [cond_false]
      cases p == 5 with
      | true => simp only [cond_true, hg]; rfl
      | false => simp
noncomputable def valR (r : TRouter) (d : TRedist) (m c : Int) : Int × Int × Bool :=
  bif (((decide (m < 0)) || (decide (m ≥ (r.fMaps.length : Int)))) || (decide (c < 0))) || (decide (c ≥ (((r.fMaps.getD m.toNat default).fClauses).length : Int))) then (0, 0, false) else
  (bif ((((r.fMaps.getD m.toNat default).fClauses).getD c.toNat default).fSetMetric) != (-1) then (S.rib_values_k1 r d m c ((((r.fMaps.getD m.toNat default).fClauses).getD c.toNat default).fSetMetric)) else (S.rib_values_k1 r d m c d.fMetric))
theorem values_eq (r : TRouter) (d : TRedist) (x : TRoute) : S.rib_values r d x = bif strEq d.fMap (⟨#[]⟩ : ByteArray) then (d.fMetric, d.fTag, true) else valR r d (S.ref8_RouteMap r d.fMap) (S.ref8_Clause r d.fMap x) := rfl
theorem r_l2 {r : TRouter} {l : List TRedist} {t : List TRoute} {p : Int} (hr : L_TRouter r) (hl : l.length ≤ 1000) (hL : ∀ d ∈ l, L_TRedist d) (hT : ∀ x ∈ t, L_TRoute x) {o0 out : List TRoute} {i j : Nat} (hi : i < t.length) (hj : j < l.length) (ho : out.length ≤ 1000) :
    M.ref20_Redistribute_l2 r l t p (o0, (i : Int)) (out, (j : Int)) = some (.inl (out ++ (bif (l.getD j default).fFrom == (t.getD i default).fProto then one r (l.getD j default) (t.getD i default) p else []), ((j + 1 : Nat) : Int))) := by
  have hd := hL _ (gmem hj)
  have hx := hT _ (gmem hi)
  have k2 : ∀ m g, M.ref20_Redistribute_k2 r l t p (o0, (i : Int)) (out, (j : Int)) (m, g) = _ := fun m g => r_k2 (r := r) (l := l) (t := t) (p := p) (m := m) (g := g) (o0 := o0) (out := out) (i := i) (j := j) (by omega) ho
  unfold M.ref20_Redistribute_l2
  simp only [Int.toNat_natCast]
  rw [show decide ((j : Int) < (l.length : Int)) = true from decide_eq_true (by omega), cond_true, gdT (by simp)]
  have k1 : M.ref20_Redistribute_k1 (out, (j : Int)) out = some (.inl (out ++ [], ((j + 1 : Nat) : Int))) := by
    unfold M.ref20_Redistribute_k1
    rw [up1 (by omega), List.append_nil]
  cases hf : (l.getD j default).fFrom == (t.getD i default).fProto with
  | false =>
    rw [show ((l.getD j default).fFrom != (t.getD i default).fProto) = true by simp only [bne, hf]; rfl, Bool.true_or, cond_true, k1]
    rfl
  | true =>
    rw [show ((l.getD j default).fFrom != (t.getD i default).fProto) = false by simp only [bne, hf]; rfl, Bool.false_or]
    simp only [cond_true]
    unfold one
    cases hdc : (t.getD i default).fDiscard && ((t.getD i default).fProto != 2) with
    | true => simp only [cond_true]; exact k1
    | false =>
      simp only [cond_false]
      rw [values_eq]
      cases hm : strEq (l.getD j default).fMap (⟨#[]⟩ : ByteArray) with
      | true =>
        simp only [Bool.not_true, cond_false, cond_true]
        exact k2 _ _
      | false =>
        simp only [Bool.not_false, cond_true, cond_false]
        rw [s_ref8_Clause _ _ _ hr hd hx, Option.bind_some]
        by_cases hrm : S.ref8_RouteMap r (l.getD j default).fMap < 0
        · rw [clause_neg _ hrm, show valR r (l.getD j default) (S.ref8_RouteMap r (l.getD j default).fMap) (-1) = (0, 0, false) by unfold valR; rw [decide_eq_true hrm]; rfl, show decide ((-1 : Int) < 0) = true from rfl]
          simp only [cond_true, Bool.not_false]
          exact k1
        · have hlt := clause_lt (t.getD i default) hrm
          have hr2 := rng_ref8_RouteMap r (l.getD j default).fMap
          rw [s_ref8_RouteMap _ _ hr hd, Option.bind_some]
          generalize S.ref8_Clause r (l.getD j default).fMap (t.getD i default) = c at *
          generalize S.ref8_RouteMap r (l.getD j default).fMap = m at *
          by_cases hc : c < 0
          · rw [show valR r (l.getD j default) m c = (0, 0, false) by unfold valR; rw [decide_eq_true hc, Bool.or_true, Bool.true_or]; rfl, decide_eq_true hc]
            simp only [cond_true, Bool.not_false]
            exact k1
          · rw [decide_eq_false hc]
            unfold valR
            rw [decide_eq_false hrm, decide_eq_false hc, show decide (m ≥ (r.fMaps.length : Int)) = false from decide_eq_false (by omega), show decide (c ≥ (((r.fMaps.getD m.toNat default).fClauses).length : Int)) = false from decide_eq_false (by omega)]
            simp only [Bool.or_false, cond_false]
            rw [gdT (by rw [show decide (0 ≤ m) = true from decide_eq_true (by omega), show decide (m < (r.fMaps.length : Int)) = true from decide_eq_true hr2, show decide (0 ≤ c) = true from decide_eq_true (by omega), show decide (c < (((r.fMaps.getD m.toNat default).fClauses).length : Int)) = true from decide_eq_true hlt]; rfl)]
            unfold M.ref20_Redistribute_k4 S.rib_values_k1 S.rib_values_k2
            simp only [Int.toNat_natCast]
            cases hp : (((r.fMaps.getD m.toNat default).fClauses).getD c.toNat default).fPermit with
            | false =>
              simp only [Bool.not_false, cond_true]
              rw [k1]
              cases ((((r.fMaps.getD m.toNat default).fClauses).getD c.toNat default).fSetMetric) != (-1) <;> cases ((((r.fMaps.getD m.toNat default).fClauses).getD c.toNat default).fSetTag) != (-1) <;> rfl
            | true =>
              simp only [Bool.not_true, cond_false]
              cases ((((r.fMaps.getD m.toNat default).fClauses).getD c.toNat default).fSetMetric) != (-1) <;> cases ((((r.fMaps.getD m.toNat default).fClauses).getD c.toNat default).fSetTag) != (-1) <;> simp only [cond_true, cond_false, k2] <;> rfl
def Apart (l : List TRedist) : Prop := ∀ k j, k < j → j < l.length → (l.getD k default).fFrom ≠ (l.getD j default).fFrom
theorem r_run2 {r : TRouter} {l : List TRedist} {t : List TRoute} {p : Int} (hr : L_TRouter r) (hl : l.length ≤ 100) (hL : ∀ d ∈ l, L_TRedist d) (hT : ∀ x ∈ t, L_TRoute x) (hA : Apart l) {o0 : List TRoute} {i : Nat} (hi : i < t.length) : ∀ (n j : Nat) (out : List TRoute), j + n = l.length → out.length + n ≤ 1000 →
    Iter (M.ref20_Redistribute_l2 r l t p (o0, (i : Int))) (out, (j : Int)) (out ++ opt1 r (t.getD i default) p ((l.drop j).find? fun d => d.fFrom == (t.getD i default).fProto)) := by
  intro n
  induction n with
  | zero =>
    intro j out h _
    rw [List.drop_eq_nil_of_le (by omega)]
    refine .out ?_
    unfold M.ref20_Redistribute_l2
    rw [show decide ((j : Int) < (l.length : Int)) = false from decide_eq_false (by omega)]
    simp [opt1]
  | succ n ih =>
    intro j out h ho
    have hj : j < l.length := by omega
    have st := r_l2 (p := p) (o0 := o0) hr (by omega) hL hT hi hj (out := out) (by omega)
    have hol := one_len r (l.getD j default) (t.getD i default) p
    rw [gdrop hj]
    cases hf : (l.getD j default).fFrom == (t.getD i default).fProto with
    | false =>
      rw [hf] at st
      simp only [cond_false, List.append_nil] at st
      rw [List.find?_cons_of_neg (by rw [hf]; exact Bool.false_ne_true)]
      exact .next st (ih (j + 1) out (by omega) (by omega))
    | true =>
      rw [hf] at st
      simp only [cond_true] at st
      rw [List.find?_cons_of_pos (by exact hf)]
      have h2 := ih (j + 1) (out ++ one r (l.getD j default) (t.getD i default) p) (by omega) (by rw [List.length_append]; omega)
      have h3 : (l.drop (j + 1)).find? (fun d => d.fFrom == (t.getD i default).fProto) = none := by
        rw [List.find?_eq_none]
        intro d hd he
        obtain ⟨q, hq, rfl⟩ := List.getElem_of_mem hd
        rw [List.length_drop] at hq
        refine hA j (j + 1 + q) (by omega) (by omega) ?_
        rw [eq_of_beq hf]
        have := eq_of_beq he
        rw [List.getElem_drop] at this
        rw [← this]
        simp [show j + 1 + q < l.length by omega]
      rw [h3] at h2
      simp only [opt1, List.append_nil] at h2 ⊢
      exact .next st h2
theorem r_run {r : TRouter} {l : List TRedist} {t : List TRoute} {p : Int} (hr : L_TRouter r) (hl : l.length ≤ 100) (hL : ∀ d ∈ l, L_TRedist d) (ht : t.length ≤ 100) (hT : ∀ x ∈ t, L_TRoute x) (hA : Apart l) : ∀ (n i : Nat) (out : List TRoute), i + n = t.length → out.length ≤ i →
    Iter (M.ref20_Redistribute_l1 r l t p) (out, (i : Int)) (out ++ (t.drop i).flatMap (redOf r l p)) := by
  intro n
  induction n with
  | zero =>
    intro i out h _
    rw [List.drop_eq_nil_of_le (by omega)]
    refine .out ?_
    unfold M.ref20_Redistribute_l1
    rw [show decide ((i : Int) < (t.length : Int)) = false from decide_eq_false (by omega)]
    simp
  | succ n ih =>
    intro i out h ho
    have hi : i < t.length := by omega
    rw [gdrop hi, List.flatMap_cons, ← List.append_assoc]
    have hle := opt1_len r (t.getD i default) p (l.find? fun d => d.fFrom == (t.getD i default).fProto)
    have h2 := r_run2 (p := p) (o0 := out) hr hl hL hT hA hi l.length 0 out (Nat.zero_add _) (by omega)
    rw [List.drop_zero] at h2
    refine .next ?_ (ih (i + 1) (out ++ redOf r l p (t.getD i default)) (by omega) (by rw [List.length_append]; unfold redOf; omega))
    unfold M.ref20_Redistribute_l1
    rw [show decide ((i : Int) < (t.length : Int)) = true from decide_eq_true (by omega), cond_true, gdT (by simp), show ((0 : Int)) = ((0 : Nat) : Int) from rfl, loopM_of h2, Option.bind_some, up1 (by omega)]
    rfl
theorem r_eq {r : TRouter} {l : List TRedist} {t : List TRoute} {p : Int} (hr : L_TRouter r) (hl : l.length ≤ 100) (hL : ∀ d ∈ l, L_TRedist d) (ht : t.length ≤ 100) (hT : ∀ x ∈ t, L_TRoute x) (hA : Apart l) : M.ref20_Redistribute r l t p = some (t.flatMap (redOf r l p)) := by
  unfold M.ref20_Redistribute
  have := r_run (p := p) hr hl hL ht hT hA t.length 0 [] (Nat.zero_add _) (Nat.zero_le _)
  rw [show ((0 : Int)) = ((0 : Nat) : Int) from rfl, loopM_of this, Option.bind_some]
  rfl
end Nv
