/- The reference's Merge is the program's. No condition. -/
import Derived.Test.YtkonldpliejgpaaNvG5
set_option maxRecDepth 10000
namespace Nv
open Go Go.Sort Go.Proofs
theorem hopsOf_cons (b x : TRoute) (g : List TRoute) : hopsOf b (x :: g) = (bif S.route_Prefer x b == 0 then x.fHops else []) ++ hopsOf b g := by
  unfold hopsOf
  cases hc : S.route_Prefer x b == 0 with
  | true => rw [List.filter_cons_of_pos (p := fun x => S.route_Prefer x b == 0) hc, List.flatMap_cons]; rfl
  | false => rw [List.filter_cons_of_neg (p := fun x => S.route_Prefer x b == 0) (by rw [hc]; exact Bool.false_ne_true)]; rfl
section
variable {l : List TRoute} {ps : List TPrefix} {acc : List TRoute} {k : Nat}
theorem rm_l3 (hl : l.length ≤ 500) (hk : k < ps.length) (hL : ∀ x ∈ l, L_TRoute x) (hh : ∀ x ∈ l, x.fHops.length ≤ 100) (hE : ∀ x ∈ l, ∀ y ∈ l, S.ref15_Prefer x y = S.route_Prefer x y) {j : Nat} (hj : j < l.length) : ∀ (n i : Nat) (hs : List THop), i + n = l.length → HAsc hs → hs.length ≤ i * 100 →
    ∃ r, Iter (M.ref15_Merge_l3 l ps (acc, (k : Int)) (j : Int)) (hs, (i : Int)) r ∧ HAsc r ∧ ∀ h, h ∈ r ↔ h ∈ hs ∨ h ∈ hopsOf (l.getD j default) ((l.drop i).filter (sameP (ps.getD k default))) := by
  intro n
  induction n with
  | zero =>
    intro i hs h1 h2 h3
    refine ⟨hs, .out ?_, h2, fun h => by rw [List.drop_eq_nil_of_le (by omega)]; simp [hopsOf]⟩
    unfold M.ref15_Merge_l3
    rw [show decide ((i : Int) < (l.length : Int)) = false from decide_eq_false (by omega), cond_false]
  | succ n ih =>
    intro i hs h1 h2 h3
    have hi : i < l.length := by omega
    have hx := rget_mem hi
    have hb := rget_mem hj
    have hup : wr .i64 ((i : Int) + 1) = ((i + 1 : Nat) : Int) := by rw [wrN (by omega) (by omega)]; omega
    have hd : l.drop i = l.getD i default :: l.drop (i + 1) := by rw [List.drop_eq_getElem_cons hi]; simp [hi]
    have d1 : decide ((i : Int) < (l.length : Int)) = true := decide_eq_true (by omega)
    have d2 : decide (0 ≤ (i : Int)) = true := decide_eq_true (by omega)
    have d3 : decide (0 ≤ (k : Int)) = true := decide_eq_true (by omega)
    have d4 : decide ((k : Int) < (ps.length : Int)) = true := decide_eq_true (by omega)
    have d5 : decide (0 ≤ (j : Int)) = true := decide_eq_true (by omega)
    have d6 : decide ((j : Int) < (l.length : Int)) = true := decide_eq_true (by omega)
    have un : M.ref15_Merge_l3 l ps (acc, (k : Int)) (j : Int) (hs, (i : Int)) = (gc (sameP (ps.getD k default) (l.getD i default)) (M.ref15_Prefer (l.getD i default) (l.getD j default))).bind fun r12 => gd [true, true, true, true, guardB (sameP (ps.getD k default) (l.getD i default)) true, guardB (sameP (ps.getD k default) (l.getD i default)) true, guardB (sameP (ps.getD k default) (l.getD i default)) true, guardB (sameP (ps.getD k default) (l.getD i default)) true] (bif sameP (ps.getD k default) (l.getD i default) && (r12 == 0) then ((M.ref15_AddHops hs (l.getD i default).fHops).bind fun r13 => gd [true, true] (some (.inl (r13, ((i + 1 : Nat) : Int))))) else some (.inl (hs, ((i + 1 : Nat) : Int)))) := by
      unfold M.ref15_Merge_l3 M.ref15_Merge_k2
      simp only [Int.toNat_natCast, hup, d1, d2, d3, d4, d5, d6, cond_true]
      rfl
    rw [hd]
    cases hc : sameP (ps.getD k default) (l.getD i default) with
    | false =>
      rw [hc] at un
      simp only [gc, cond_false, Option.bind_some, Bool.false_and] at un
      rw [gdT (by simp [guardB])] at un
      obtain ⟨r, q1, q2, q3⟩ := ih (i + 1) hs (by omega) h2 (by omega)
      refine ⟨r, .next un q1, q2, fun h => ?_⟩
      rw [q3, List.filter_cons_of_neg (by rw [hc]; exact Bool.false_ne_true)]
    | true =>
      rw [hc] at un
      simp only [gc, cond_true, Bool.true_and] at un
      rw [s_ref15_Prefer _ _ (hL _ hx) (hL _ hb), Option.bind_some, hE _ hx _ hb, gdT (by simp [guardB])] at un
      rw [List.filter_cons_of_pos hc]
      cases hp : S.route_Prefer (l.getD i default) (l.getD j default) == 0 with
      | true =>
        rw [hp] at un
        have hxl := hh _ hx
        obtain ⟨r1, p1, p2, p3, p4⟩ := addHops_ok (l := hs) (m := (l.getD i default).fHops) (by omega) (by omega) h2
        rw [cond_true, p1, Option.bind_some, gdT (by simp)] at un
        obtain ⟨r, q1, q2, q3⟩ := ih (i + 1) r1 (by omega) p2 (by omega)
        refine ⟨r, .next un q1, q2, fun h => ?_⟩
        rw [q3, p3, hopsOf_cons, hp, cond_true, List.mem_append, or_assoc]
      | false =>
        rw [hp] at un
        obtain ⟨r, q1, q2, q3⟩ := ih (i + 1) hs (by omega) h2 (by omega)
        refine ⟨r, .next un q1, q2, fun h => ?_⟩
        rw [q3, hopsOf_cons, hp, cond_false, List.nil_append]
theorem rm_l1 (hl : l.length ≤ 500) (hL : ∀ x ∈ l, L_TRoute x) (hh : ∀ x ∈ l, x.fHops.length ≤ 100) (hp : ∀ x ∈ l, x.fPath.length ≤ 1000) (hE : ∀ x ∈ l, ∀ y ∈ l, S.ref15_Prefer x y = S.route_Prefer x y) (hps : ∀ p ∈ ps, ∃ y ∈ l, y.fPrefix = p) (hpl : ps.length ≤ 500) : ∀ (n k : Nat) (acc : List TRoute), k + n = ps.length → acc.length ≤ k →
    Iter (M.ref15_Merge_l1 l ps) (acc, (k : Int)) (acc ++ (ps.drop k).map fun p => mo (l.filter (sameP p))) := by
  intro n
  induction n with
  | zero =>
    intro k acc h1 h2
    rw [List.drop_eq_nil_of_le (by omega), List.map_nil, List.append_nil]
    refine .out ?_
    unfold M.ref15_Merge_l1
    rw [show decide ((k : Int) < (ps.length : Int)) = false from decide_eq_false (by omega), cond_false]
  | succ n ih =>
    intro k acc h1 h2
    have hk : k < ps.length := by omega
    have hup : wr .i64 ((k : Int) + 1) = ((k + 1 : Nat) : Int) := by rw [wrN (by omega) (by omega)]; omega
    have hd : ps.drop k = ps.getD k default :: ps.drop (k + 1) := by rw [List.drop_eq_getElem_cons hk]; simp [hk]
    obtain ⟨y, hy, hye⟩ := hps _ (pget_mem hk)
    have hne : l.filter (sameP (ps.getD k default)) ≠ [] := fun e => by
      have : y ∈ l.filter (sameP (ps.getD k default)) := List.mem_filter.2 ⟨hy, peq_iff.2 hye⟩
      rw [e] at this; cases this
    obtain ⟨bi, i1, i2⟩ := rm_l2 (acc := acc) hl hk hL hE l.length 0 (-1) none (Nat.zero_add _) (.inl ⟨rfl, rfl⟩)
    rw [List.drop_zero, fb_all, if_neg hne] at i2
    rcases i2 with ⟨_, h⟩ | ⟨j, rfl, hj, hbj⟩
    · cases h
    have hbj := Option.some.inj hbj
    have hpj := hp _ (rget_mem hj)
    obtain ⟨r, q1, q2, q3⟩ := rm_l3 (acc := acc) hl hk hL hh hE hj l.length 0 [] (Nat.zero_add _) List.Pairwise.nil (by simp)
    rw [List.drop_zero, ← hbj] at q3
    have hr : r = hset (hopsOf (bestOf (l.filter (sameP (ps.getD k default)))) (l.filter (sameP (ps.getD k default)))) := hset_uniq q2 fun h => by rw [q3]; simp
    have e : (⟨(l.getD j default).fPrefix, (l.getD j default).fProto, (l.getD j default).fClass, (l.getD j default).fAdmin, (l.getD j default).fMetric, (l.getD j default).fInner, (l.getD j default).fTag, (l.getD j default).fPref, ((l.getD j default).fPath : List Int), (l.getD j default).fFrom, (l.getD j default).fNext, r, (l.getD j default).fDiscard⟩ : TRoute) = mo (l.filter (sameP (ps.getD k default))) := by
      rw [hbj] at hr
      unfold mo
      rw [hbj, ← hr]
    rw [hd, List.map_cons, List.append_cons]
    refine .next (x' := (acc ++ [mo (l.filter (sameP (ps.getD k default)))], ((k + 1 : Nat) : Int))) ?_ (ih (k + 1) _ (by omega) (by rw [List.length_append, List.length_singleton]; omega))
    unfold M.ref15_Merge_l1
    simp only [hup]
    rw [show decide ((k : Int) < (ps.length : Int)) = true from decide_eq_true (by omega), cond_true]
    refine Option.bind_eq_some_iff.2 ⟨_, loopM_of i1, ?_⟩
    simp only [Int.toNat_natCast]
    rw [gdT (by simp; omega), show decide ((0 + ((l.getD j default).fPath).length) * 8 ≤ 140737488355328) = true from decide_eq_true (by omega), gdT (by simp)]
    refine Option.bind_eq_some_iff.2 ⟨_, loopM_of q1, ?_⟩
    rw [gdT (by simp; omega), e]
end
theorem rmerge_eq {l : List TRoute} (hl : l.length ≤ 100) (hL : ∀ x ∈ l, L_TRoute x) (hh : ∀ x ∈ l, x.fHops.length ≤ 100) (hp : ∀ x ∈ l, x.fPath.length ≤ 1000) (hE : ∀ x ∈ l, ∀ y ∈ l, S.ref15_Prefer x y = S.route_Prefer x y) : M.ref15_Merge l = some (mer l) := by
  obtain ⟨ps, p1, p2, p3, p4⟩ := prefixes_ok (l := l) (by omega)
  have i1 := rm_l1 (by omega) hL hh hp hE (fun p h => (p3 p).1 h) (by omega) ps.length 0 [] (Nat.zero_add _) (Nat.zero_le _)
  rw [List.drop_zero, List.nil_append] at i1
  obtain ⟨m1, m2, m3⟩ := mer_ok l
  have hpre : ∀ p ∈ ps, (mo (l.filter (sameP p))).fPrefix = p := fun p h => by
    obtain ⟨y, hy, e⟩ := (p3 p).1 h
    refine mo_prefix (fun e2 => ?_) fun x hx => peq_iff.1 (List.mem_filter.1 hx).2
    have : y ∈ l.filter (sameP p) := List.mem_filter.2 ⟨hy, peq_iff.2 e⟩
    rw [e2] at this; cases this
  have hasc : Asc (ps.map fun p => mo (l.filter (sameP p))) := by
    unfold Asc
    rw [List.pairwise_map]
    exact p2.imp_of_mem fun {a b} ha hb h => by rw [hpre a ha, hpre b hb]; exact h
  have e : (ps.map fun p => mo (l.filter (sameP p))) = mer l := by
    refine asc_ext hasc m1 fun p => ?_
    rw [m3]
    by_cases hpp : p ∈ ps
    · have hm : mo (l.filter (sameP p)) ∈ ps.map fun p => mo (l.filter (sameP p)) := List.mem_map.2 ⟨p, hpp, rfl⟩
      have h1 := lk_mem hasc hm
      rw [hpre p hpp] at h1
      obtain ⟨y, hy, e⟩ := (p3 p).1 hpp
      rw [h1, if_neg fun e2 => by
        have : y ∈ l.filter (sameP p) := List.mem_filter.2 ⟨hy, peq_iff.2 e⟩
        rw [e2] at this; cases this]
    · rw [lk_none fun t ht e => ?_, if_pos]
      · rw [List.filter_eq_nil_iff]
        exact fun y hy hh => hpp ((p3 p).2 ⟨y, hy, peq_iff.1 hh⟩)
      · obtain ⟨q, hq, rfl⟩ := List.mem_map.1 ht
        rw [hpre q hq] at e
        exact hpp (e ▸ hq)
  unfold M.ref15_Merge
  rw [p1, Option.bind_some, show ((0 : Int)) = ((0 : Nat) : Int) from rfl, loopM_of i1, Option.bind_some, e]
end Nv
