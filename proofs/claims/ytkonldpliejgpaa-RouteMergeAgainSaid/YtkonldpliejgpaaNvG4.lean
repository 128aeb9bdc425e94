/- The reference's prefixes of a list of routes. No condition. -/
import Derived.Test.YtkonldpliejgpaaNvG3
set_option maxRecDepth 10000
namespace Nv
open Go Go.Sort Go.Proofs
def PAsc (l : List TPrefix) : Prop := l.Pairwise plt
theorem pget_mem {l : List TPrefix} {i : Nat} (hi : i < l.length) : l.getD i default ∈ l := by rw [List.getD_eq_getElem?_getD, List.getElem?_eq_getElem hi]; exact List.getElem_mem hi
theorem refCompare_lt (p q : TPrefix) : decide (S.ref4_Compare p q < 0) = decide (plt p q) := by
  have := refCompare_iff p q
  rw [decide_eq_decide]
  constructor
  · intro h; exact Classical.byContradiction fun hn => by have := this.2 hn; omega
  · intro h; exact Classical.byContradiction fun hn => this.1 (by omega) h
theorem rp_l2 {l : List TRoute} {i : Nat} (hi : i < l.length) {ps : List TPrefix} (hl : ps.length ≤ 1000) : ∀ (n k : Nat), k + n = ps.length → (∀ j, j < k → plt (ps.getD j default) (l.getD i default).fPrefix) →
    ∃ k', k' ≤ ps.length ∧ Iter (M.ref15_prefixes_l2 l (ps, (i : Int))) (k : Int) ((k' : Nat) : Int) ∧ (∀ j, j < k' → plt (ps.getD j default) (l.getD i default).fPrefix) ∧ (k' < ps.length → ¬ plt (ps.getD k' default) (l.getD i default).fPrefix) := by
  intro n
  induction n with
  | zero =>
    intro k h1 h2
    refine ⟨k, by omega, .out ?_, h2, fun h => by omega⟩
    unfold M.ref15_prefixes_l2
    rw [show decide ((k : Int) < (ps.length : Int)) = false from decide_eq_false (by omega)]
    simp only [gc, cond_false, Option.bind_some, guardB, Bool.false_and]
    rw [gdT (by simp)]
  | succ n ih =>
    intro k h1 h2
    have hup : wr .i64 ((k : Int) + 1) = ((k + 1 : Nat) : Int) := by rw [wrN (by omega) (by omega)]; omega
    have st : M.ref15_prefixes_l2 l (ps, (i : Int)) (k : Int) = bif decide (plt (ps.getD k default) (l.getD i default).fPrefix) then some (.inl ((k + 1 : Nat) : Int)) else some (.inr (k : Int)) := by
      unfold M.ref15_prefixes_l2
      rw [show decide ((k : Int) < (ps.length : Int)) = true from decide_eq_true (by omega)]
      simp only [gc, cond_true, Int.toNat_natCast, guardB, Bool.true_and, hup, Nat.zero_add]
      rw [s_ref4_Compare, Option.bind_some, gdT (by simp; omega), refCompare_lt]
    cases hb : decide (plt (ps.getD k default) (l.getD i default).fPrefix) with
    | true =>
      rw [hb] at st
      obtain ⟨k', q1, q2, q3⟩ := ih (k + 1) (by omega) (fun j hj => by
        by_cases e : j = k
        · rw [e]; exact of_decide_eq_true hb
        · exact h2 j (by omega))
      exact ⟨k', q1, .next st q2, q3⟩
    | false =>
      rw [hb] at st
      exact ⟨k, by omega, .out st, h2, fun _ hc => (of_decide_eq_false hb) hc⟩
theorem rp_step {l : List TRoute} {i : Nat} (hi : i < l.length) {ps : List TPrefix} (hl : ps.length ≤ 1000) (ha : PAsc ps) (hi2 : l.length ≤ 1000) : ∃ r, M.ref15_prefixes_l1 l (ps, (i : Int)) = some (.inl (r, ((i + 1 : Nat) : Int))) ∧ PAsc r ∧ (∀ x, x ∈ r ↔ x ∈ ps ∨ x = (l.getD i default).fPrefix) ∧ r.length ≤ ps.length + 1 := by
  obtain ⟨k, q1, q2, q3, q4⟩ := rp_l2 hi hl ps.length 0 (Nat.zero_add _) (fun j hj => by omega)
  have hup : wr .i64 ((i : Int) + 1) = ((i + 1 : Nat) : Int) := by rw [wrN (by omega) (by omega)]; omega
  have hq : ∀ a b : Int, (a == b) = decide (a = b) := fun a b => by rw [Bool.eq_iff_iff]; simp
  have un : M.ref15_prefixes_l1 l (ps, (i : Int)) = bif decide (k = ps.length) || !peq (ps.getD k default) (l.getD i default).fPrefix then some (.inl ((ps.take k ++ [(l.getD i default).fPrefix]) ++ ps.drop k, ((i + 1 : Nat) : Int))) else some (.inl (ps, ((i + 1 : Nat) : Int))) := by
    unfold M.ref15_prefixes_l1 M.ref15_prefixes_k1
    rw [show decide ((i : Int) < (l.length : Int)) = true from decide_eq_true (by omega), cond_true, show ((0 : Int)) = ((0 : Nat) : Int) from rfl, loopM_of q2, Option.bind_some]
    simp only [Int.toNat_natCast, Nat.sub_zero, Nat.zero_add, List.drop_zero, hup]
    have ek : (((k : Nat) : Int) == (ps.length : Int)) = decide (k = ps.length) := by rw [hq, decide_eq_decide]; omega
    rw [ek]
    rw [gdT (by cases hc : decide (k = ps.length) with
      | true => simp [guardB]
      | false => have := of_decide_eq_false hc; simp [guardB]; omega)]
    show (bif decide (k = ps.length) || !peq (ps.getD k default) (l.getD i default).fPrefix then _ else _) = _
    congr 1
    rw [gdT (by simp; omega), List.take_of_length_le (l := ps.drop k) (by rw [List.length_drop]; exact Nat.le_refl _)]
  rw [un]
  cases hb : decide (k = ps.length) || !peq (ps.getD k default) (l.getD i default).fPrefix with
  | false =>
    rw [Bool.or_eq_false_iff, Bool.not_eq_false'] at hb
    have hk : k < ps.length := by have := of_decide_eq_false hb.1; omega
    have e := peq_iff.1 hb.2
    have hm := pget_mem hk
    rw [e] at hm
    exact ⟨ps, rfl, ha, fun x => ⟨.inl, fun hx => hx.elim id fun e => e ▸ hm⟩, Nat.le_succ _⟩
  | true =>
    refine ⟨_, rfl, ?_, fun x => ?_, by simp; omega⟩
    · have h1 : ∀ a ∈ ps.take k, plt a (l.getD i default).fPrefix := fun a hx => by
        obtain ⟨j, hj, rfl⟩ := List.getElem_of_mem hx
        rw [List.length_take] at hj
        have := q3 j (by omega)
        rw [List.getElem_take]
        simpa [show j < ps.length by omega] using this
      have h2 : ∀ b ∈ ps.drop k, plt (l.getD i default).fPrefix b := fun b hx => by
        by_cases hk : k < ps.length
        · have hn := q4 hk
          have hne : ¬ ps.getD k default = (l.getD i default).fPrefix := fun e => by
            rw [peq_iff.2 e, show decide (k = ps.length) = false from decide_eq_false (by omega)] at hb; cases hb
          have hlt1 : plt (l.getD i default).fPrefix (ps.getD k default) := by
            rcases plt_tri (ps.getD k default) (l.getD i default).fPrefix with e | e | e
            · exact absurd e hn
            · exact absurd e hne
            · exact e
          have hd : ps.drop k = ps.getD k default :: ps.drop (k + 1) := by rw [List.drop_eq_getElem_cons hk]; simp [hk]
          have hp := ha.sublist (List.drop_sublist k ps)
          rw [hd, List.pairwise_cons] at hp
          rw [hd] at hx
          rcases List.mem_cons.1 hx with rfl | hx
          · exact hlt1
          · exact plt_tr hlt1 (hp.1 b hx)
        · rw [List.drop_eq_nil_of_le (by omega)] at hx; cases hx
      unfold PAsc
      rw [List.pairwise_append, List.pairwise_append]
      refine ⟨⟨ha.sublist (List.take_sublist k ps), List.pairwise_singleton _ _, fun a hx b hy => by rw [List.mem_singleton] at hy; subst hy; exact h1 a hx⟩, ha.sublist (List.drop_sublist k ps), fun a hx b hy => ?_⟩
      rcases List.mem_append.1 hx with hx | hx
      · exact plt_tr (h1 a hx) (h2 b hy)
      · rw [List.mem_singleton] at hx; subst hx; exact h2 b hy
    · rw [List.mem_append, List.mem_append, List.mem_singleton]
      conv => rhs; rw [← List.take_append_drop k ps, List.mem_append]
      constructor
      · rintro ((h | h) | h)
        · exact .inl (.inl h)
        · exact .inr h
        · exact .inl (.inr h)
      · rintro ((h | h) | h)
        · exact .inl (.inl h)
        · exact .inr h
        · exact .inl (.inr h)
theorem rp_l1 {l : List TRoute} (hl : l.length ≤ 500) : ∀ (n i : Nat) (ps : List TPrefix), i + n = l.length → PAsc ps → ps.length ≤ i →
    ∃ r, Iter (M.ref15_prefixes_l1 l) (ps, (i : Int)) r ∧ PAsc r ∧ (∀ x, x ∈ r ↔ x ∈ ps ∨ ∃ y ∈ l.drop i, y.fPrefix = x) ∧ r.length ≤ l.length := by
  intro n
  induction n with
  | zero =>
    intro i ps h1 h2 h3
    refine ⟨ps, .out ?_, h2, fun x => by rw [List.drop_eq_nil_of_le (by omega)]; simp, by omega⟩
    unfold M.ref15_prefixes_l1
    rw [show decide ((i : Int) < (l.length : Int)) = false from decide_eq_false (by omega), cond_false]
  | succ n ih =>
    intro i ps h1 h2 h3
    have hi : i < l.length := by omega
    have hd : l.drop i = l.getD i default :: l.drop (i + 1) := by rw [List.drop_eq_getElem_cons hi]; simp [hi]
    obtain ⟨r1, p1, p2, p3, p4⟩ := rp_step hi (ps := ps) (by omega) h2 (by omega)
    obtain ⟨r, q1, q2, q3, q4⟩ := ih (i + 1) r1 (by omega) p2 (by omega)
    refine ⟨r, .next p1 q1, q2, fun x => ?_, q4⟩
    rw [q3, p3, hd, or_assoc]
    simp only [List.mem_cons]
    constructor
    · rintro (h | rfl | ⟨y, hy, e⟩)
      · exact .inl h
      · exact .inr ⟨_, .inl rfl, rfl⟩
      · exact .inr ⟨y, .inr hy, e⟩
    · rintro (h | ⟨y, rfl | hy, e⟩)
      · exact .inl h
      · exact .inr (.inl e.symm)
      · exact .inr (.inr ⟨y, hy, e⟩)
theorem prefixes_ok {l : List TRoute} (hl : l.length ≤ 500) : ∃ ps, M.ref15_prefixes l = some ps ∧ PAsc ps ∧ (∀ x, x ∈ ps ↔ ∃ y ∈ l, y.fPrefix = x) ∧ ps.length ≤ l.length := by
  obtain ⟨r, q1, q2, q3, q4⟩ := rp_l1 hl l.length 0 [] (Nat.zero_add _) List.Pairwise.nil (Nat.zero_le _)
  refine ⟨r, ?_, q2, fun x => by rw [q3]; simp, q4⟩
  unfold M.ref15_prefixes
  rw [show ((0 : Int)) = ((0 : Nat) : Int) from rfl, loopM_of q1, Option.bind_some]
end Nv
