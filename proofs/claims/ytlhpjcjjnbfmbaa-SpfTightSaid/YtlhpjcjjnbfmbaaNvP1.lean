/- The plain law of SpfTight: along every edge the distance grows by at most its cost, and along one by exactly its cost. -/
import Derived.Test.YtlhpjcjjnbfmbaaNvY2
import Derived.Test.YtlhpjcjjnbfmbaaNvV1
import Derived.Test.YtlhpjcjjnbfmbaaNvS1
set_option maxRecDepth 100000
namespace Nv
open Go
theorem counts_eq (n : Nat) (e : TEdge) : ∃ b, M.law15_counts e n = some b ∧ (b = true ↔ Us n e) := usable_eq n e
structure Tg (n : Nat) (es : List TEdge) (x : Nat) (d : List Int) (k : Nat) (t : List Bool) : Prop where
  len : t.length = n
  self : t.getD x default = true
  edge : ∀ e ∈ es.take k, Us n e → 0 ≤ d.getD e.fFrom.toNat default → d.getD e.fTo.toNat default = d.getD e.fFrom.toNat default + e.fCost → t.getD e.fTo.toNat default = true
theorem t_l1 {n : Nat} {es : List TEdge} (he : es.length ≤ 1000) {x : Nat} {d : List Int} (hD : Dist n es x d) (bD : ∀ i, i < n → d.getD i default ≤ 1073741760) : ∀ (m k : Nat) (t : List Bool), k + m = es.length → Tg n es x d k t → ∃ r, Iter (M.law15_SpfTight_l1 (n : Int) es d) (t, (k : Int)) (.inl r) ∧ Tg n es x d es.length r := by
  intro m
  induction m with
  | zero =>
    intro k t h ht
    refine ⟨t, .out ?_, by rwa [show es.length = k by omega]⟩
    unfold M.law15_SpfTight_l1
    rw [show decide ((k : Int) < (es.length : Int)) = false from decide_eq_false (by omega)]
    rfl
  | succ m ih =>
    intro k t h ht
    have hk : k < es.length := by omega
    have hmem : es.getD k default ∈ es := by rw [List.getD_eq_getElem?_getD, List.getElem?_eq_getElem hk]; exact List.getElem_mem hk
    generalize hE : es.getD k default = e at hmem
    obtain ⟨b, hb, hbu⟩ := counts_eq n e
    have skip : ∀ t', M.law15_SpfTight_k1 (t, (k : Int)) t' = some (.inl (t', ((k + 1 : Nat) : Int))) := fun t' => by unfold M.law15_SpfTight_k1; rw [up1 (by omega)]
    have q1 : decide (0 ≤ (k : Int)) = true := decide_eq_true (by omega)
    have q2 : decide ((k : Int) < (es.length : Int)) = true := decide_eq_true (by omega)
    have hld := hD.len
    have hlt := ht.len
    by_cases hyes : Us n e ∧ 0 ≤ d.getD e.fFrom.toNat default
    · obtain ⟨hu, h0⟩ := hyes
      have hbt : b = true := hbu.2 hu
      have u1 := hu.f0
      have u2 := hu.f1
      have u3 := hu.t0
      have u4 := hu.t1
      have u5 := hu.c0
      have u6 := hu.c1
      have hed := hD.edge hmem hu h0
      have bb := bD e.fFrom.toNat (by omega)
      have q3 : decide (0 ≤ e.fFrom) = true := decide_eq_true u1
      have q4 : decide (e.fFrom < (d.length : Int)) = true := decide_eq_true (by omega)
      have q5 : decide (0 ≤ e.fTo) = true := decide_eq_true u3
      have q6 : decide (e.fTo < (d.length : Int)) = true := decide_eq_true (by omega)
      have q7 : decide (e.fTo < (t.length : Int)) = true := decide_eq_true (by omega)
      have hw : wr .i64 (d.getD e.fFrom.toNat default + e.fCost) = d.getD e.fFrom.toNat default + e.fCost := wrN (by omega) (by omega)
      have htn : e.fTo.toNat < t.length := by omega
      obtain ⟨r, h1, h2⟩ := ih (k + 1) (t.set e.fTo.toNat (t.getD e.fTo.toNat default || (d.getD e.fTo.toNat default == d.getD e.fFrom.toNat default + e.fCost))) (by omega) ⟨by simpa using hlt, by
          rw [bset htn]
          split
          · rename_i hx; rw [← hx, ht.self]; rfl
          · exact ht.self, fun e' h3 h4 h5 h6 => by
          rw [etake hk, hE] at h3
          rw [bset htn]
          split
          · rename_i hx
            rcases List.mem_append.1 h3 with h7 | h7
            · have := ht.edge e' h7 h4 h5 h6
              rw [← hx, this]; rfl
            · rw [List.mem_singleton.1 h7] at h6
              rw [h6]; simp
          · rename_i hx
            rcases List.mem_append.1 h3 with h7 | h7
            · exact ht.edge e' h7 h4 h5 h6
            · rw [List.mem_singleton.1 h7] at hx; exact absurd rfl hx⟩
      refine ⟨r, .next ?_ h1, h2⟩
      unfold M.law15_SpfTight_l1
      simp only [Int.toNat_natCast, Nat.zero_add, hE, skip, hw]
      rw [q2, cond_true, hb, Option.bind_some, hbt, gdT (by simp only [List.all_cons, List.all_nil, q1, q3, q4, guardB_t, id, Bool.and_self]), decide_eq_false (show ¬ d.getD e.fFrom.toNat default < 0 by omega)]
      simp only [Bool.not_true, Bool.or_self, cond_false]
      rw [gdT (by simp only [List.all_cons, List.all_nil, q1, q3, q4, q5, q6, guardB_t, id, Bool.and_self]), decide_eq_false (show ¬ d.getD e.fTo.toNat default < 0 by omega), decide_eq_false (show ¬ d.getD e.fTo.toNat default > d.getD e.fFrom.toNat default + e.fCost by omega)]
      simp only [Bool.or_self, cond_false]
      rw [gdT (by simp only [List.all_cons, List.all_nil, q1, q3, q4, q5, q6, q7, guardB_t, id, Bool.and_self])]
    · obtain ⟨r, h1, h2⟩ := ih (k + 1) t (by omega) ⟨hlt, ht.self, fun e' h3 h4 h5 h6 => by
        rw [etake hk, hE] at h3
        rcases List.mem_append.1 h3 with h7 | h7
        · exact ht.edge e' h7 h4 h5 h6
        · rw [List.mem_singleton.1 h7] at h4 h5
          exact absurd ⟨h4, h5⟩ hyes⟩
      refine ⟨r, .next ?_ h1, h2⟩
      unfold M.law15_SpfTight_l1
      simp only [Int.toNat_natCast, Nat.zero_add, hE, skip]
      rw [q2, cond_true, hb, Option.bind_some]
      cases b with
      | false =>
        rw [gdT (by simp only [List.all_cons, List.all_nil, q1, id, Bool.and_self, guardB, Bool.not_false, Bool.not_true, cond_false])]
        rfl
      | true =>
        have hu := hbu.1 rfl
        have u1 := hu.f0
        have u2 := hu.f1
        have q3 : decide (0 ≤ e.fFrom) = true := decide_eq_true u1
        have q4 : decide (e.fFrom < (d.length : Int)) = true := decide_eq_true (by omega)
        rw [gdT (by simp only [List.all_cons, List.all_nil, q1, q3, q4, guardB_t, id, Bool.and_self]), decide_eq_true (show d.getD e.fFrom.toNat default < 0 by
          rcases Int.lt_or_le (d.getD e.fFrom.toNat default) 0 with h3 | h3
          · exact h3
          · exact absurd ⟨hu, h3⟩ hyes)]
        rfl
theorem t_l2 {n : Nat} (hn : n ≤ 64) {d : List Int} {t : List Bool} (hd : d.length = n) (hl : t.length = n) (hall : ∀ i, i < n → 0 ≤ d.getD i default → t.getD i default = true) : ∀ (k i : Nat), i + k = n → Iter (M.law15_SpfTight_l2 (n : Int) d t) (i : Int) (.inl ()) := by
  intro k
  induction k with
  | zero =>
    intro i h
    refine .out ?_
    unfold M.law15_SpfTight_l2
    rw [show decide ((i : Int) < (n : Int)) = false from decide_eq_false (by omega)]
    rfl
  | succ k ih =>
    intro i h
    refine .next ?_ (ih (i + 1) (by omega))
    have q1 : decide (0 ≤ (i : Int)) = true := decide_eq_true (by omega)
    have q2 : decide ((i : Int) < (d.length : Int)) = true := decide_eq_true (by omega)
    have q3 : decide ((i : Int) < (t.length : Int)) = true := decide_eq_true (by omega)
    unfold M.law15_SpfTight_l2
    simp only [Int.toNat_natCast, Nat.zero_add]
    rw [show decide ((i : Int) < (n : Int)) = true from decide_eq_true (by omega), cond_true, gdT (by simp only [List.all_cons, List.all_nil, q1, q2, q3, guardB_t, id, Bool.and_self]), up1 (by omega)]
    rcases Int.lt_or_le (d.getD i default) 0 with h1 | h1
    · rw [decide_eq_false (show ¬ d.getD i default ≥ 0 by omega)]; rfl
    · rw [hall i (by omega) h1, Bool.not_true, Bool.and_false]; rfl
theorem plain_SpfTight (a0 : Int) (a1 : List TEdge) (a2 : Int) (_w0 : (Lit.int .i64 a0).wf = true) (_w1 : a1.length ≤ maxLen ∧ a1.length * 40 ≤ reachBytes ∧ ∀ y ∈ a1, W_TEdge y) (_w2 : (Lit.int .i64 a2).wf = true) : M.law15_SpfTight a0 a1 a2 = some true := by
  unfold M.law15_SpfTight M.law15_few
  rw [Option.bind_some]
  cases hc : ((!((decide (a0 ≤ 12)) && (decide ((a1.length : Int) ≤ 60)))) || (decide (a2 < 0))) || (decide (a2 ≥ a0)) with
  | true => rfl
  | false =>
    simp only [Bool.or_eq_false_iff, Bool.not_eq_false', Bool.and_eq_true, decide_eq_true_eq, decide_eq_false_iff_not] at hc
    obtain ⟨⟨⟨h1, h2⟩, h3⟩, h4⟩ := hc
    obtain ⟨d, hd, hD, bD⟩ := dist_ok (a0 := a0) (by omega) (es := a1) (by omega) a2
    obtain ⟨n, rfl⟩ : ∃ n : Nat, a0 = n := ⟨a0.toNat, by omega⟩
    obtain ⟨x, rfl⟩ : ∃ n : Nat, a2 = n := ⟨a2.toNat, by omega⟩
    simp only [Int.toNat_natCast] at hD bD
    have hx : x < n := by omega
    have hld := hD.len
    obtain ⟨t, g1, g2⟩ := t_l1 (es := a1) (by omega) hD bD a1.length 0 ((List.replicate n false).set x true) (Nat.zero_add _) ⟨by simp, by simp [hx], fun e h => by simp at h⟩
    have g2e : ∀ e ∈ a1, Us n e → 0 ≤ d.getD e.fFrom.toNat default → d.getD e.fTo.toNat default = d.getD e.fFrom.toNat default + e.fCost → t.getD e.fTo.toNat default = true := fun e h => g2.edge e (by simpa using h)
    have g3 := t_l2 (n := n) (by omega) hld g2.len (fun i hi h0 => by
      by_cases hix : i = x
      · subst hix; exact g2.self
      · obtain ⟨e, k1, k2, k3, k4, k5⟩ := hD.tight hi h0 (by omega)
        have : e.fTo.toNat = i := by omega
        have k6 := g2e e k1 k2 k4 (by rw [this]; exact k5)
        rwa [this] at k6) n 0 (Nat.zero_add _)
    have l1 : loopM (M.law15_SpfTight_l1 (n : Int) a1 d) ((List.replicate n false).set x true, 0) = some (.inl t) := loopM_of g1
    have l2 : loopM (M.law15_SpfTight_l2 (n : Int) d t) 0 = some (.inl ()) := loopM_of g3
    rw [cond_false, hd, Option.bind_some]
    simp only [Int.toNat_natCast, Nat.zero_add]
    rw [show ((d.length : Int) != (n : Int)) = false by simp [hld], hD.self hx]
    rw [gdT (by simp [guardB]; omega), show ((0 : Int) != 0) = false from rfl, Bool.or_self, cond_false, gdT (by simp; omega), gdT (by simp; omega), l1, Option.bind_some]
    simp only [Sum.elim_inl]
    rw [l2, Option.bind_some]
    simp only [Sum.elim_inl]
    rw [sane_some]
    rfl
end Nv
