/- The plain law of SpfFirst: a node has a hop exactly if it is reached, and each hop belongs to an edge of the first node. -/
import Derived.Test.YtlhpjcjjnbfmbaaNvY4
import Derived.Test.YtlhpjcjjnbfmbaaNvV1
import Derived.Test.YtlhpjcjjnbfmbaaNvS1
set_option maxRecDepth 100000
namespace Nv
open Go
theorem counts_eq (n : Nat) (e : TEdge) : ∃ b, M.law15_counts e n = some b ∧ (b = true ↔ Us n e) := usable_eq n e
theorem g_l3 {n : Nat} {es : List TEdge} (he : es.length ≤ 1000) {x : Int} {H : List (List THop)} {i j : Nat} (hi : i < H.length) (hj : j < (H.getD i default).length) : ∀ (m k : Nat) (b : Bool), k + m = es.length → (b = true ∨ ∃ e ∈ es.drop k, Us n e ∧ e.fFrom = x ∧ e.fHop = (H.getD i default).getD j default) → Iter (M.law15_SpfFirst_l3 (n : Int) es x H (i : Int) (j : Int)) (b, (k : Int)) true := by
  intro m
  induction m with
  | zero =>
    intro k b h hb
    have hbt : b = true := hb.resolve_right (by rintro ⟨e, h1, _⟩; rw [List.drop_eq_nil_of_le (by omega)] at h1; cases h1)
    refine .out ?_
    unfold M.law15_SpfFirst_l3
    rw [show decide ((k : Int) < (es.length : Int)) = false from decide_eq_false (by omega), hbt]
    rfl
  | succ m ih =>
    intro k b h hb
    have hk : k < es.length := by omega
    have hdr : es.drop k = es.getD k default :: es.drop (k + 1) := by rw [List.drop_eq_getElem_cons hk]; simp [hk]
    generalize hE : es.getD k default = e at hdr
    obtain ⟨c, hc, hcu⟩ := counts_eq n e
    have q1 : decide (0 ≤ (k : Int)) = true := decide_eq_true (by omega)
    have q2 : decide ((k : Int) < (es.length : Int)) = true := decide_eq_true (by omega)
    have q3 : decide (0 ≤ (i : Int)) = true := decide_eq_true (by omega)
    have q4 : decide ((i : Int) < (H.length : Int)) = true := decide_eq_true (by omega)
    have q5 : decide (0 ≤ (j : Int)) = true := decide_eq_true (by omega)
    have q6 : decide ((j : Int) < ((H.getD i default).length : Int)) = true := decide_eq_true (by omega)
    have st : ∃ b', M.law15_SpfFirst_l3 (n : Int) es x H (i : Int) (j : Int) (b, (k : Int)) = some (.inl (b', ((k + 1 : Nat) : Int))) ∧ (b = true → b' = true) ∧ (Us n e → e.fFrom = x → e.fHop = (H.getD i default).getD j default → b' = true) := by
      unfold M.law15_SpfFirst_l3
      simp only [Int.toNat_natCast, hE]
      rw [q2, cond_true]
      cases b with
      | true =>
        simp only [gc, Bool.not_true, cond_false, Option.bind_some, Bool.false_and]
        rw [gdT (by simp only [List.all_cons, List.all_nil, guardB, cond_false, id, Bool.and_self]), up1 (by omega)]
        exact ⟨_, rfl, fun _ => rfl, fun _ _ _ => rfl⟩
      | false =>
        simp only [gc, Bool.not_false, cond_true]
        rw [hc, Option.bind_some, gdT (by simp only [List.all_cons, List.all_nil, q1, q3, q4, q5, q6, guardB_t, id, Bool.and_self]), up1 (by omega)]
        refine ⟨_, rfl, fun h => (by cases h), fun h1 h2 h3 => ?_⟩
        rw [hcu.2 h1, h2, ← h3]
        simp
    obtain ⟨b', s1, s2, s3⟩ := st
    refine .next s1 (ih (k + 1) b' (by omega) ?_)
    rcases hb with hb | ⟨e', h1, h2, h3, h4⟩
    · exact .inl (s2 hb)
    · rw [hdr] at h1
      rcases List.mem_cons.1 h1 with h5 | h5
      · rw [h5] at h2 h3 h4
        exact .inl (s3 h2 h3 h4)
      · exact .inr ⟨e', h5, h2, h3, h4⟩
theorem g_l2 {n : Nat} {es : List TEdge} (he : es.length ≤ 1000) {x : Int} {H : List (List THop)} {i : Nat} (hi : i < H.length) (hl : (H.getD i default).length ≤ 1000) (hall : ∀ h ∈ H.getD i default, ∃ e ∈ es, Us n e ∧ e.fFrom = x ∧ e.fHop = h) : ∀ (m j : Nat), j + m = (H.getD i default).length → Iter (M.law15_SpfFirst_l2 (n : Int) es x H (i : Int)) (j : Int) (.inl ()) := by
  intro m
  have q3 : decide (0 ≤ (i : Int)) = true := decide_eq_true (by omega)
  have q4 : decide ((i : Int) < (H.length : Int)) = true := decide_eq_true (by omega)
  induction m with
  | zero =>
    intro j h
    refine .out ?_
    unfold M.law15_SpfFirst_l2
    simp only [Int.toNat_natCast]
    rw [gdT (by simp only [List.all_cons, List.all_nil, q3, q4, id, Bool.and_self]), show decide ((j : Int) < ((H.getD i default).length : Int)) = false from decide_eq_false (by omega)]
    rfl
  | succ m ih =>
    intro j h
    have hj : j < (H.getD i default).length := by omega
    have hm : (H.getD i default).getD j default ∈ H.getD i default := by rw [List.getD_eq_getElem?_getD (l := H.getD i default), List.getElem?_eq_getElem hj]; exact List.getElem_mem hj
    obtain ⟨e, h1, h2⟩ := hall _ hm
    have e3 : loopM (M.law15_SpfFirst_l3 (n : Int) es x H (i : Int) (j : Int)) (false, (0 : Int)) = some true := loopM_of (g_l3 he hi hj es.length 0 false (Nat.zero_add _) (.inr ⟨e, by simpa using h1, h2⟩))
    refine .next ?_ (ih (j + 1) (by omega))
    unfold M.law15_SpfFirst_l2
    simp only [Int.toNat_natCast]
    rw [gdT (by simp only [List.all_cons, List.all_nil, q3, q4, id, Bool.and_self]), show decide ((j : Int) < ((H.getD i default).length : Int)) = true from decide_eq_true (by omega), cond_true, e3, Option.bind_some, up1 (by omega)]
    rfl
theorem plain_SpfFirst (a0 : Int) (a1 : List TEdge) (a2 : Int) (_w0 : (Lit.int .i64 a0).wf = true) (_w1 : a1.length ≤ maxLen ∧ a1.length * 40 ≤ reachBytes ∧ ∀ y ∈ a1, W_TEdge y) (_w2 : (Lit.int .i64 a2).wf = true) : M.law15_SpfFirst a0 a1 a2 = some true := by
  unfold M.law15_SpfFirst M.law15_few
  rw [Option.bind_some]
  cases hc : ((!((decide (a0 ≤ 12)) && (decide ((a1.length : Int) ≤ 60)))) || (decide (a2 < 0))) || (decide (a2 ≥ a0)) with
  | true => rfl
  | false =>
    simp only [Bool.or_eq_false_iff, Bool.not_eq_false', Bool.and_eq_true, decide_eq_true_eq, decide_eq_false_iff_not] at hc
    obtain ⟨⟨⟨h1, h2⟩, h3⟩, h4⟩ := hc
    obtain ⟨d, hd, hD, bD⟩ := dist_ok (a0 := a0) (by omega) (es := a1) (by omega) a2
    obtain ⟨H, hH, hl, hP, hsz⟩ := hops_ok (a0 := a0) (by omega) (es := a1) (by omega) a2 hd hD
    obtain ⟨n, rfl⟩ : ∃ n : Nat, a0 = n := ⟨a0.toNat, by omega⟩
    obtain ⟨x, rfl⟩ : ∃ n : Nat, a2 = n := ⟨a2.toNat, by omega⟩
    simp only [Int.toNat_natCast] at hD bD hl hP hsz
    have hx : x < n := by omega
    have hld := hD.len
    have hx0 : (H.getD x default) = [] := by
      cases hq : H.getD x default with
      | nil => rfl
      | cons h t =>
        have := (hP x hx).2 h
        rw [hq] at this
        obtain ⟨e, _, _, _, _, h5, _⟩ := this.1 List.mem_cons_self
        exact absurd rfl h5
    -- a hop exactly where the node is reached
    have hne : ∀ i, i < n → i ≠ x → (0 ≤ d.getD i default ↔ 0 < (H.getD i default).length) := fun i hi hix => by
      constructor
      · intro h0
        rcases (hD.ach i hi h0).first with ⟨h5, _⟩ | ⟨e, g1, g2, g3, c, g4, g5⟩
        · omega
        · obtain ⟨r, hr, hR, _⟩ := dist_ok (a0 := (n : Int)) (by omega) (es := a1) (by omega) e.fTo
          rw [Int.toNat_natCast] at hR
          have k1 := hR.low i hi c g4
          have k2 := hD.low i hi (e.fCost + r.getD i default) (by
            have := (Walk.one g1 g2).append (hR.ach i hi k1.1)
            rwa [g3] at this)
          have : e.fHop ∈ H.getD i default := ((hP i hi).2 _).2 ⟨e, g1, g2, g3, rfl, by omega, r, hR, k1.1, by omega⟩
          exact List.length_pos_of_mem this
      · intro h0
        obtain ⟨h, hh⟩ := List.exists_mem_of_length_pos h0
        obtain ⟨e, g1, g2, _, _, _, r, _, g3, g4⟩ := ((hP i hi).2 h).1 hh
        have := g2.c0
        omega
    have loop : ∀ (m i : Nat), i + m = n → Iter (M.law15_SpfFirst_l1 (n : Int) a1 (x : Int) d H) (i : Int) (.inl ()) := by
      intro m
      induction m with
      | zero =>
        intro i h
        refine .out ?_
        unfold M.law15_SpfFirst_l1
        rw [show decide ((i : Int) < (n : Int)) = false from decide_eq_false (by omega)]
        rfl
      | succ m ih =>
        intro i h
        have hi : i < n := by omega
        have q1 : decide (0 ≤ (i : Int)) = true := decide_eq_true (by omega)
        have q2 : decide ((i : Int) < (d.length : Int)) = true := decide_eq_true (by omega)
        have q3 : decide ((i : Int) < (H.length : Int)) = true := decide_eq_true (by omega)
        have e2 : loopM (M.law15_SpfFirst_l2 (n : Int) a1 (x : Int) H (i : Int)) (0 : Int) = some (.inl ()) := loopM_of (g_l2 (es := a1) (by omega) (by omega) (hsz i hi) (fun h hh => by
          obtain ⟨e, g1, g2, g3, g4, _⟩ := ((hP i hi).2 h).1 hh
          exact ⟨e, g1, g2, g3, g4⟩) _ 0 (Nat.zero_add _))
        refine .next ?_ (ih (i + 1) (by omega))
        unfold M.law15_SpfFirst_l1
        simp only [Int.toNat_natCast]
        rw [show decide ((i : Int) < (n : Int)) = true from decide_eq_true (by omega), cond_true, gdT (by simp only [List.all_cons, List.all_nil, q1, q2, q3, guardB_t, id, Bool.and_self])]
        rw [show (((i : Int) != (x : Int)) && (!((decide ((d.getD i default) ≥ 0)) == (decide (((H.getD i default).length : Int) > 0))))) = false by
          by_cases hix : i = x
          · subst hix; simp
          · have := hne i hi hix
            rw [show (decide ((d.getD i default) ≥ 0)) = decide (((H.getD i default).length : Int) > 0) from decide_eq_decide.2 (by
              constructor
              · intro g; have := this.1 g; omega
              · intro g; exact this.2 (by omega))]
            simp, cond_false, e2, Option.bind_some, up1 (by omega)]
        rfl
    have el : loopM (M.law15_SpfFirst_l1 (n : Int) a1 (x : Int) d H) (0 : Int) = some (.inl ()) := loopM_of (loop n 0 (Nat.zero_add _))
    rw [cond_false, hd, Option.bind_some, hH, Option.bind_some]
    simp only [Int.toNat_natCast]
    rw [show ((d.length : Int) != (n : Int)) = false by simp [hld], show ((H.length : Int) != (n : Int)) = false by simp [hl], hx0, gdT (by simp [guardB]; omega)]
    rw [show (((([] : List THop).length : Nat) : Int) != 0) = false from rfl, Bool.or_self, Bool.or_self, cond_false, el, Option.bind_some]
    simp only [Sum.elim_inl]
    rw [sane_some]
    rfl
end Nv
