/- Hops put into an ascending list; hops sorted. No condition. -/
import Derived.Test.YtkonldpliejgpaaNvH2
import Derived.Test.YtkonldpliejgpaaNvT1
import Derived.Test.YtkonldpliejgpaaNvR1
import Derived.Test.YtkonldpliejgpaaNvLibC
namespace Nv
open Go Go.Sort Go.Proofs
theorem less_iff (x y : THop) : S.ref15_lessHop x y = true ↔ hlt x y := by
  unfold S.ref15_lessHop hlt
  simp [Bool.or_eq_true, Bool.and_eq_true, decide_eq_true_eq, beq_iff_eq]
theorem hget_mem {l : List THop} {i : Nat} (hi : i < l.length) : l.getD i default ∈ l := by rw [List.getD_eq_getElem?_getD, List.getElem?_eq_getElem hi]; exact List.getElem_mem hi
theorem ah_l1 {l : List THop} (hl : l.length ≤ 1000000) (h : THop) : ∀ (n k : Nat), k + n = l.length → (∀ i, i < k → hlt (l.getD i default) h) →
    ∃ k', k' ≤ l.length ∧ Iter (M.ref15_addHop_l1 l h) (k : Int) ((k' : Nat) : Int) ∧ (∀ i, i < k' → hlt (l.getD i default) h) ∧ (k' < l.length → ¬ hlt (l.getD k' default) h) := by
  intro n
  induction n with
  | zero =>
    intro k h1 h2
    refine ⟨k, by omega, .out ?_, h2, fun h => by omega⟩
    unfold M.ref15_addHop_l1
    rw [show decide ((k : Int) < (l.length : Int)) = false from decide_eq_false (by omega)]
    simp only [gc, cond_false, Option.bind_some, guardB, Bool.false_and]
    rw [gdT (by simp)]
  | succ n ih =>
    intro k h1 h2
    have hup : wr .i64 ((k : Int) + 1) = ((k + 1 : Nat) : Int) := by rw [wrN (by omega) (by omega)]; omega
    have st : M.ref15_addHop_l1 l h (k : Int) = bif S.ref15_lessHop (l.getD k default) h then some (.inl ((k + 1 : Nat) : Int)) else some (.inr (k : Int)) := by
      unfold M.ref15_addHop_l1
      rw [show decide ((k : Int) < (l.length : Int)) = true from decide_eq_true (by omega)]
      simp only [gc, cond_true, Int.toNat_natCast, guardB, Bool.true_and, hup]
      rw [s_ref15_lessHop, Option.bind_some, gdT (by simp)]
    cases hb : S.ref15_lessHop (l.getD k default) h with
    | true =>
      rw [hb] at st
      obtain ⟨k', q1, q2, q3⟩ := ih (k + 1) (by omega) (fun i hi => by
        by_cases e : i = k
        · rw [e]; exact (less_iff _ _).1 hb
        · exact h2 i (by omega))
      exact ⟨k', q1, .next st q2, q3⟩
    | false =>
      rw [hb] at st
      exact ⟨k, by omega, .out st, h2, fun _ hc => by rw [(less_iff _ _).2 hc] at hb; cases hb⟩
theorem addHop_ok {l : List THop} (hl : l.length ≤ 1000000) (ha : HAsc l) (h : THop) : ∃ r, M.ref15_addHop l h = some r ∧ HAsc r ∧ (∀ x, x ∈ r ↔ x ∈ l ∨ x = h) ∧ r.length ≤ l.length + 1 := by
  obtain ⟨k, q1, q2, q3, q4⟩ := ah_l1 hl h l.length 0 (Nat.zero_add _) (fun i hi => by omega)
  have d0 : decide (0 ≤ ((k : Nat) : Int)) = true := decide_eq_true (by omega)
  have d1 : decide (((k : Nat) : Int) ≤ (l.length : Int)) = true := decide_eq_true (by omega)
  have un : M.ref15_addHop l h = bif decide (((k : Nat) : Int) < (l.length : Int)) && heq (l.getD k default) h then some l else some ((l.take k ++ [h]) ++ l.drop k) := by
    unfold M.ref15_addHop
    rw [show ((0 : Int)) = ((0 : Nat) : Int) from rfl, loopM_of q2, Option.bind_some]
    simp only [Int.toNat_natCast, Nat.sub_zero, Nat.zero_add, List.drop_zero]
    rw [show ((0 : Nat) : Int) = 0 from rfl]
    rw [gdT (by cases hc : decide (((k : Nat) : Int) < (l.length : Int)) <;> simp [guardB, d0])]
    show (bif decide (((k : Nat) : Int) < (l.length : Int)) && heq (l.getD k default) h then some l else _) = _
    congr 1
    rw [gdT (by simp [d0, d1]; omega), List.take_of_length_le (l := l.drop k) (by rw [List.length_drop]; exact Nat.le_refl _)]
  rw [un]
  cases hb : decide (((k : Nat) : Int) < (l.length : Int)) && heq (l.getD k default) h with
  | true =>
    rw [Bool.and_eq_true, decide_eq_true_eq] at hb
    have hk : k < l.length := by omega
    have e := heq_iff.1 hb.2
    have hm := hget_mem hk
    rw [e] at hm
    exact ⟨l, rfl, ha, fun x => ⟨.inl, fun hx => hx.elim id fun e => e ▸ hm⟩, Nat.le_succ _⟩
  | false =>
    refine ⟨_, rfl, ?_, fun x => ?_, by simp; omega⟩
    · have h1 : ∀ a ∈ l.take k, hlt a h := fun a hx => by
        obtain ⟨i, hi, rfl⟩ := List.getElem_of_mem hx
        rw [List.length_take] at hi
        have := q3 i (by omega)
        rw [List.getElem_take]
        simpa [show i < l.length by omega] using this
      have h2 : ∀ b ∈ l.drop k, hlt h b := fun b hx => by
        by_cases hk : k < l.length
        · have hn := q4 hk
          have hne : ¬ l.getD k default = h := fun e => by rw [heq_iff.2 e, Bool.and_true, decide_eq_false_iff_not] at hb; omega
          have hlt1 : hlt h (l.getD k default) := by
            rcases hlt_tri (l.getD k default) h with e | e | e
            · exact absurd e hn
            · exact absurd e hne
            · exact e
          have hd : l.drop k = l.getD k default :: l.drop (k + 1) := by rw [List.drop_eq_getElem_cons hk]; simp [hk]
          have hp := ha.sublist (List.drop_sublist k l)
          rw [hd, List.pairwise_cons] at hp
          rw [hd] at hx
          rcases List.mem_cons.1 hx with rfl | hx
          · exact hlt1
          · exact hlt_trans hlt1 (hp.1 b hx)
        · rw [List.drop_eq_nil_of_le (by omega)] at hx; cases hx
      unfold HAsc
      rw [List.pairwise_append, List.pairwise_append]
      refine ⟨⟨ha.sublist (List.take_sublist k l), List.pairwise_singleton _ _, fun a hx b hy => by rw [List.mem_singleton] at hy; subst hy; exact h1 a hx⟩, ha.sublist (List.drop_sublist k l), fun a hx b hy => ?_⟩
      rcases List.mem_append.1 hx with hx | hx
      · exact hlt_trans (h1 a hx) (h2 b hy)
      · rw [List.mem_singleton] at hx; subst hx; exact h2 b hy
    · rw [List.mem_append, List.mem_append, List.mem_singleton]
      conv => rhs; rw [← List.take_append_drop k l, List.mem_append]
      constructor
      · rintro ((h | h) | h)
        · exact .inl (.inl h)
        · exact .inr h
        · exact .inl (.inr h)
      · rintro ((h | h) | h)
        · exact .inl (.inl h)
        · exact .inr h
        · exact .inl (.inr h)
theorem addHops_l1 {m : List THop} (hm : m.length ≤ 100000) : ∀ (n i : Nat) (acc : List THop), i + n = m.length → HAsc acc → acc.length + n ≤ 1000000 →
    ∃ r, Iter (M.ref15_AddHops_l1 m) (acc, (i : Int)) r ∧ HAsc r ∧ (∀ x, x ∈ r ↔ x ∈ acc ∨ x ∈ m.drop i) ∧ r.length ≤ acc.length + n := by
  intro n
  induction n with
  | zero =>
    intro i acc h1 h2 h3
    refine ⟨acc, .out ?_, h2, fun x => by rw [List.drop_eq_nil_of_le (by omega)]; simp, Nat.le_refl _⟩
    unfold M.ref15_AddHops_l1
    rw [show decide ((i : Int) < (m.length : Int)) = false from decide_eq_false (by omega), cond_false]
  | succ n ih =>
    intro i acc h1 h2 h3
    have hi : i < m.length := by omega
    have hup : wr .i64 ((i : Int) + 1) = ((i + 1 : Nat) : Int) := by rw [wrN (by omega) (by omega)]; omega
    have hd : m.drop i = m.getD i default :: m.drop (i + 1) := by rw [List.drop_eq_getElem_cons hi]; simp [hi]
    obtain ⟨r1, p1, p2, p3, p4⟩ := addHop_ok (l := acc) (by omega) h2 (m.getD i default)
    obtain ⟨r, q1, q2, q3, q4⟩ := ih (i + 1) r1 (by omega) p2 (by omega)
    refine ⟨r, .next ?_ q1, q2, fun x => ?_, by omega⟩
    · unfold M.ref15_AddHops_l1
      simp only [Int.toNat_natCast, hup]
      rw [show decide ((i : Int) < (m.length : Int)) = true from decide_eq_true (by omega), cond_true, p1, Option.bind_some, gdT (by simp)]
    · rw [q3, p3, hd, List.mem_cons, or_assoc]
theorem addHops_ok {l m : List THop} (hl : l.length ≤ 100000) (hm : m.length ≤ 100000) (ha : HAsc l) : ∃ r, M.ref15_AddHops l m = some r ∧ HAsc r ∧ (∀ x, x ∈ r ↔ x ∈ l ∨ x ∈ m) ∧ r.length ≤ l.length + m.length := by
  obtain ⟨r, q1, q2, q3, q4⟩ := addHops_l1 hm m.length 0 l (Nat.zero_add _) ha (by omega)
  refine ⟨r, ?_, q2, q3, q4⟩
  unfold M.ref15_AddHops
  rw [show ((0 : Int)) = ((0 : Nat) : Int) from rfl, loopM_of q1, Option.bind_some]
noncomputable def hcf (x y : THop) : Int := S.route_compareHops x y
theorem hcf_lt (x y : THop) : ltOf hcf x y = decide (hlt x y) := by
  unfold ltOf hcf S.route_compareHops
  simp only [letS, q_cmp, q_cmp32, q_or]
  rw [decide_eq_decide]
  unfold fnz fnz fnz cmpI hlt
  have b1 : ((-1 : Int) != 0) = true := by decide
  have b2 : ((1 : Int) != 0) = true := by decide
  have b3 : ((0 : Int) != 0) = false := by decide
  split <;> split <;> (try split) <;> (try split) <;> simp only [b1, b2, b3, cond_true, cond_false] <;> omega
theorem hcf_swo : SWO (ltOf hcf) where
  irrefl x := by rw [hcf_lt, decide_eq_false_iff_not]; exact hlt_irr x
  trans x y z h1 h2 := by rw [hcf_lt, decide_eq_true_eq] at *; exact hlt_trans h1 h2
  ntrans x y z h1 h2 := by rw [hcf_lt, decide_eq_false_iff_not] at *; unfold hlt at *; omega
noncomputable def hset (l : List THop) : List THop := ddp (sortP hcf l)
theorem hset_ok (l : List THop) : HAsc (hset l) ∧ ∀ x, x ∈ hset l ↔ x ∈ l := by
  obtain ⟨_, h2, h3⟩ := sortP_ok hcf_swo l
  exact ⟨ddp_asc (h3.imp fun {a b} h => by rw [hcf_lt, decide_eq_false_iff_not] at h; exact h), fun x => by unfold hset; rw [ddp_mem]; exact ⟨fun h => h2.subset h, fun h => h2.symm.subset h⟩⟩
theorem hset_uniq {l r : List THop} (h : HAsc r) (k : ∀ x, x ∈ r ↔ x ∈ l) : r = hset l := hasc_ext h (hset_ok l).1 fun x => (k x).trans ((hset_ok l).2 x).symm
theorem so_route_compareHops : SortOK M.route_compareHops := ⟨hcf, s_route_compareHops, hcf_swo⟩
end Nv
