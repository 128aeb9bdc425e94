/- The hops of spf.Hops. No condition. -/
import Derived.Test.YtlhpjcjjnbfmbaaNvY2
import Derived.Test.YtlhpjcjjnbfmbaaNvH2
import Derived.Test.YtlhpjcjjnbfmbaaNvHs
set_option maxRecDepth 100000
namespace Nv
open Go Go.Sort Go.Proofs
def HP (n : Nat) (es es1 : List TEdge) (x : Int) (d : List Int) (i : Nat) (h : THop) : Prop :=
  ∃ e ∈ es1, Us n e ∧ e.fFrom = x ∧ e.fHop = h ∧ (i : Int) ≠ x ∧ ∃ r, Dist n es e.fTo r ∧ 0 ≤ r.getD i default ∧ e.fCost + r.getD i default = d.getD i default
theorem sort_eq {l : List THop} (hl : l.length ≤ 1000000) : M.slices_SortFunc_api_Hop_api_Hop__spf_Hops_1 l = some (sortP hcf l) := by
  unfold M.slices_SortFunc_api_Hop_api_Hop__spf_Hops_1 sortM
  rw [dif_pos ⟨so_spf_Hops_1, by omega⟩]
  have h := (⟨so_spf_Hops_1, by omega⟩ : SortOK M.spf_Hops_1 ∧ l.length < 4611686018427387904)
  have e : h.1.choose = hcf := by
    funext x y
    have := h.1.choose_spec.1 x y
    rw [hops1_eq] at this
    exact (Option.some.inj this).symm
  rw [show (⟨so_spf_Hops_1, by omega⟩ : SortOK M.spf_Hops_1 ∧ l.length < 4611686018427387904).1.choose = hcf from e]
theorem lset {l : List (List THop)} {i j : Nat} {x : List THop} (hi : i < l.length) : (l.set i x).getD j default = if j = i then x else l.getD j default := by
  by_cases h : j = i
  · subst h; simp [hi]
  · rw [if_neg h]; simp [List.getElem?_set_ne (Ne.symm h)]
def Add (x : Int) (d r : List Int) (cost : Int) (i : Nat) : Prop := (i : Int) ≠ x ∧ 0 ≤ r.getD i default ∧ cost + r.getD i default = d.getD i default
theorem h_l2 {n : Nat} (hn : n ≤ 64) {es : List TEdge} {x : Int} {d r : List Int} (hd : d.length = n) (hr : r.length = n) (br : ∀ i, i < n → r.getD i default ≤ 1073741760) {k0 : Nat} {e : TEdge} (hE : es.getD k0 default = e) (hu : Us n e) {L0 p0 : List (List THop)} {hL0 : ∀ i, i < n → (L0.getD i default).length ≤ 1000} :
    ∀ (m k : Nat) (L : List (List THop)), k + m = n → L.length = n → (∀ i, i < n → (∀ h, h ∈ L.getD i default ↔ h ∈ L0.getD i default ∨ (i < k ∧ Add x d r e.fCost i ∧ h = e.fHop)) ∧ (L.getD i default).length ≤ (L0.getD i default).length + 1 ∧ (k ≤ i → L.getD i default = L0.getD i default)) →
    ∃ R, Iter (M.spf_Hops_l2 es x d (p0, (k0 : Int)) r) (L, (k : Int)) R ∧ R.length = n ∧ ∀ i, i < n → (∀ h, h ∈ R.getD i default ↔ h ∈ L0.getD i default ∨ (Add x d r e.fCost i ∧ h = e.fHop)) ∧ (R.getD i default).length ≤ (L0.getD i default).length + 1 := by
  intro m
  induction m with
  | zero =>
    intro k L h hl hL
    refine ⟨L, .out ?_, hl, fun i hi => ⟨fun h' => ?_, (hL i hi).2.1⟩⟩
    · unfold M.spf_Hops_l2
      rw [show decide ((k : Int) < (r.length : Int)) = false from decide_eq_false (by omega)]
      rfl
    · rw [(hL i hi).1 h']
      exact ⟨fun h1 => h1.imp (fun h => h) fun h2 => h2.2, fun h1 => h1.imp (fun h => h) fun h2 => ⟨by omega, h2⟩⟩
  | succ m ih =>
    intro k L h hl hL
    have hk : k < n := by omega
    have q1 : decide (0 ≤ (k : Int)) = true := decide_eq_true (by omega)
    have q2 : decide ((k : Int) < (r.length : Int)) = true := decide_eq_true (by omega)
    have q3 : decide ((k : Int) < (d.length : Int)) = true := decide_eq_true (by omega)
    have q4 : decide ((k : Int) < (L.length : Int)) = true := decide_eq_true (by omega)
    have hlk := (hL k hk).2.1
    have hl0 := hL0 k hk
    have hkL : k < L.length := by omega
    have cont : ∀ L', M.spf_Hops_k2 (L, (k : Int)) L' = some (.inl (L', ((k + 1 : Nat) : Int))) := fun L' => by unfold M.spf_Hops_k2; rw [up1 (by omega)]
    by_cases hA : Add x d r e.fCost k
    · obtain ⟨a1, a2, a3⟩ := hA
      have b1 := br k hk
      have u1 := hu.c0
      have u2 := hu.c1
      have hw : wr .i64 (e.fCost + r.getD k default) = e.fCost + r.getD k default := wrN (by omega) (by omega)
      have st : M.spf_Hops_l2 es x d (p0, (k0 : Int)) r (L, (k : Int)) = some (.inl (L.set k (L.getD k default ++ [e.fHop]), ((k + 1 : Nat) : Int))) := by
        unfold M.spf_Hops_l2
        simp only [Int.toNat_natCast, Nat.zero_add, hE, cont, hw]
        rw [q2, cond_true, gdT (by simp only [List.all_cons, List.all_nil, q1, id, Bool.and_self]), gdT (by simp only [List.all_cons, List.all_nil, q1, q3, guardB_t, id, Bool.and_self])]
        rw [show ((((k : Int) != x) && (decide (r.getD k default ≥ 0))) && (e.fCost + r.getD k default == d.getD k default)) = true by
          simp only [Bool.and_eq_true, bne_iff_ne, ne_eq, decide_eq_true_eq, beq_iff_eq]; exact ⟨⟨a1, a2⟩, a3⟩, cond_true, gdT (by
          rw [show decide (((L.getD k default).length + 1) * 16 ≤ 140737488355328) = true from decide_eq_true (by omega)]
          simp only [List.all_cons, List.all_nil, q1, q4, id, Bool.and_self])]
      obtain ⟨R, h1, h2, h3⟩ := ih (k + 1) (L.set k (L.getD k default ++ [e.fHop])) (by omega) (by simpa using hl) (fun i hi => by
        have hi' := hL i hi
        rw [lset hkL]
        by_cases hik : i = k
        · subst hik
          rw [if_pos rfl, hi'.2.2 (Nat.le_refl _)]
          refine ⟨fun h' => ?_, by simp, fun h' => by omega⟩
          rw [List.mem_append, List.mem_singleton]
          exact ⟨fun h4 => h4.imp (fun h => h) fun h5 => ⟨by omega, ⟨a1, a2, a3⟩, h5⟩, fun h4 => h4.imp (fun h => h) fun h5 => h5.2.2⟩
        · rw [if_neg hik]
          refine ⟨fun h' => ?_, hi'.2.1, fun h' => hi'.2.2 (by omega)⟩
          rw [hi'.1 h']
          exact ⟨fun h4 => h4.imp (fun h => h) fun h5 => ⟨by omega, h5.2⟩, fun h4 => h4.imp (fun h => h) fun h5 => ⟨by omega, h5.2⟩⟩)
      exact ⟨R, .next st h1, h2, h3⟩
    · have st : M.spf_Hops_l2 es x d (p0, (k0 : Int)) r (L, (k : Int)) = some (.inl (L, ((k + 1 : Nat) : Int))) := by
        unfold M.spf_Hops_l2
        simp only [Int.toNat_natCast, Nat.zero_add, hE, cont]
        rw [q2, cond_true, gdT (by simp only [List.all_cons, List.all_nil, q1, id, Bool.and_self]), gdT (by simp only [List.all_cons, List.all_nil, q1, q3, guardB_t, id, Bool.and_self])]
        rw [show ((((k : Int) != x) && (decide (r.getD k default ≥ 0))) && (wr .i64 (e.fCost + r.getD k default) == d.getD k default)) = false by
          rw [Bool.eq_false_iff]
          simp only [ne_eq, Bool.and_eq_true, bne_iff_ne, decide_eq_true_eq, beq_iff_eq]
          rintro ⟨⟨a1, a2⟩, a3⟩
          have b1 := br k hk
          have u1 := hu.c0
          have u2 := hu.c1
          rw [wrN (by omega) (by omega)] at a3
          exact hA ⟨a1, a2, a3⟩, cond_false]
      obtain ⟨R, h1, h2, h3⟩ := ih (k + 1) L (by omega) hl (fun i hi => by
        have hi' := hL i hi
        refine ⟨fun h' => ?_, hi'.2.1, fun h' => hi'.2.2 (by omega)⟩
        rw [hi'.1 h']
        refine ⟨fun h4 => h4.imp (fun h => h) fun h5 => ⟨by omega, h5.2⟩, fun h4 => h4.imp (fun h => h) fun h5 => ⟨?_, h5.2⟩⟩
        rcases Nat.lt_or_ge i k with h6 | h6
        · exact h6
        · have : i = k := by omega
          subst this
          exact absurd h5.2.1 hA)
      exact ⟨R, .next st h1, h2, h3⟩
structure Hd (n : Nat) (es : List TEdge) (x : Int) (d : List Int) (k : Nat) (L : List (List THop)) : Prop where
  len : L.length = n
  mem : ∀ i, i < n → ∀ h, h ∈ L.getD i default ↔ HP n es (es.take k) x d i h
  sz : ∀ i, i < n → (L.getD i default).length ≤ k
theorem hp_snoc {n : Nat} {es l : List TEdge} {e : TEdge} {x : Int} {d : List Int} {i : Nat} {h : THop} : HP n es (l ++ [e]) x d i h ↔ HP n es l x d i h ∨ HP n es [e] x d i h := by
  unfold HP
  constructor
  · rintro ⟨e', h1, h2⟩
    exact (List.mem_append.1 h1).imp (fun h => ⟨e', h, h2⟩) fun h => ⟨e', h, h2⟩
  · rintro (⟨e', h1, h2⟩ | ⟨e', h1, h2⟩)
    · exact ⟨e', List.mem_append_left _ h1, h2⟩
    · exact ⟨e', List.mem_append_right _ h1, h2⟩
theorem hp_one {n : Nat} {es : List TEdge} {e : TEdge} {x : Int} {d r : List Int} (hu : Us n e) (hf : e.fFrom = x) (hr : Dist n es e.fTo r) {i : Nat} (hi : i < n) {h : THop} : HP n es [e] x d i h ↔ Add x d r e.fCost i ∧ h = e.fHop := by
  unfold HP Add
  constructor
  · rintro ⟨e', h1, h2, h3, h4, h5, r', h6, h7, h8⟩
    rw [List.mem_singleton.1 h1] at h4 h6 h8
    have := hr.val h6 hi
    exact ⟨⟨h5, by omega, by omega⟩, h4.symm⟩
  · rintro ⟨⟨h1, h2, h3⟩, h4⟩
    exact ⟨e, List.mem_singleton.2 rfl, hu, hf, h4.symm, h1, r, hr, h2, h3⟩
theorem h_l1 {a0 : Int} {n : Nat} (ha : a0 ≤ 64) (hN : a0.toNat = n) {es : List TEdge} (he : es.length ≤ 900) {x : Int} {d : List Int} (hd : d.length = n) : ∀ (m k : Nat) (L : List (List THop)), k + m = es.length → Hd n es x d k L → ∃ R, Iter (M.spf_Hops_l1 es x (n : Int) d) (L, (k : Int)) R ∧ Hd n es x d es.length R := by
  intro m
  induction m with
  | zero =>
    intro k L h hL
    refine ⟨L, .out ?_, by rwa [show es.length = k by omega]⟩
    unfold M.spf_Hops_l1
    rw [show decide ((k : Int) < (es.length : Int)) = false from decide_eq_false (by omega)]
    rfl
  | succ m ih =>
    intro k L h hL
    have hk : k < es.length := by omega
    generalize hE : es.getD k default = e
    have hn : n ≤ 64 := by omega
    obtain ⟨b, hb, hbu⟩ := usable_eq n e
    have cont : ∀ L', M.spf_Hops_k1 (L, (k : Int)) L' = some (.inl (L', ((k + 1 : Nat) : Int))) := fun L' => by unfold M.spf_Hops_k1; rw [up1 (by omega)]
    by_cases hyes : Us n e ∧ e.fFrom = x
    · obtain ⟨hu, hf⟩ := hyes
      obtain ⟨r, hr, hR, bR⟩ := dist_ok (a0 := (n : Int)) (by omega) (es := es) (by omega) e.fTo
      rw [Int.toNat_natCast] at hR bR
      obtain ⟨R, h1, h2, h3⟩ := h_l2 (es := es) (x := x) (p0 := L) (L0 := L) hn hd hR.len bR hE hu (hL0 := fun i hi => by have := hL.sz i hi; omega) n 0 L (Nat.zero_add _) hL.len (fun i hi => ⟨fun h' => ⟨.inl, fun h4 => h4.elim (fun h => h) fun h5 => by omega⟩, Nat.le_succ _, fun _ => rfl⟩)
      obtain ⟨Q, h4, h5⟩ := ih (k + 1) R (by omega) ⟨h2, fun i hi h' => by
        rw [(h3 i hi).1 h', etake hk, hE, hp_snoc, hL.mem i hi h', hp_one hu hf hR hi], fun i hi => by have := (h3 i hi).2; have := hL.sz i hi; omega⟩
      refine ⟨Q, .next ?_ h4, h5⟩
      have e2 : loopM (M.spf_Hops_l2 es x d (L, (k : Int)) r) (L, (0 : Int)) = some R := loopM_of h1
      unfold M.spf_Hops_l1
      simp only [Int.toNat_natCast, hE]
      rw [show decide ((k : Int) < (es.length : Int)) = true from decide_eq_true (by omega), cond_true, gdT (by simp), hb, Option.bind_some, hbu.2 hu, show (e.fFrom != x) = false by simp [hf]]
      simp only [Bool.not_true, Bool.or_self, cond_false]
      rw [hr, Option.bind_some, e2, Option.bind_some, cont]
    · obtain ⟨Q, h4, h5⟩ := ih (k + 1) L (by omega) ⟨hL.len, fun i hi h' => by
        rw [etake hk, hE, hp_snoc, hL.mem i hi h']
        exact ⟨.inl, fun h6 => h6.elim (fun h => h) fun ⟨e', g1, g2, g3, _⟩ => by rw [List.mem_singleton.1 g1] at g2 g3; exact absurd ⟨g2, g3⟩ hyes⟩, fun i hi => by have := hL.sz i hi; omega⟩
      refine ⟨Q, .next ?_ h4, h5⟩
      unfold M.spf_Hops_l1
      simp only [Int.toNat_natCast, hE]
      rw [show decide ((k : Int) < (es.length : Int)) = true from decide_eq_true (by omega), cond_true, gdT (by simp), hb, Option.bind_some, show ((!b) || (e.fFrom != x)) = true by
        cases b with
        | false => rfl
        | true =>
          have hu := hbu.1 rfl
          have : e.fFrom ≠ x := fun h => hyes ⟨hu, h⟩
          simpa using this, cond_true, cont]
theorem h_l3 {n : Nat} (hn : n ≤ 64) {L0 : List (List THop)} (hl0 : L0.length = n) (hb : ∀ i, i < n → (L0.getD i default).length ≤ 1000) : ∀ (m k : Nat) (L : List (List THop)), k + m = n → L.length = n → (∀ i, i < n → L.getD i default = if i < k then hset (L0.getD i default) else L0.getD i default) → ∃ R, Iter (M.spf_Hops_l3 L0) (L, (k : Int)) R ∧ R.length = n ∧ ∀ i, i < n → R.getD i default = hset (L0.getD i default) := by
  intro m
  induction m with
  | zero =>
    intro k L h hl hL
    refine ⟨L, .out ?_, hl, fun i hi => by rw [hL i hi, if_pos (by omega)]⟩
    unfold M.spf_Hops_l3
    rw [show decide ((k : Int) < (L0.length : Int)) = false from decide_eq_false (by omega)]
    rfl
  | succ m ih =>
    intro k L h hl hL
    have hk : k < n := by omega
    have hLk : L.getD k default = L0.getD k default := by rw [hL k hk, if_neg (by omega)]
    have hbk := hb k hk
    have hlen : (sortP hcf (L0.getD k default)).length = (L0.getD k default).length := (sortP_ok hcf_swo (L0.getD k default)).2.1.length_eq
    obtain ⟨l', m', c1, c2, c3, c4⟩ := compact_eq (l := sortP hcf (L0.getD k default)) (by omega)
    have hkL : k < L.length := by omega
    obtain ⟨R, h1, h2, h3⟩ := ih (k + 1) (L.set k (hset (L0.getD k default))) (by omega) (by simpa using hl) (fun i hi => by
      rw [lset hkL]
      by_cases hik : i = k
      · subst hik; rw [if_pos rfl, if_pos (by omega)]
      · rw [if_neg hik, hL i hi]
        by_cases h4 : i < k
        · rw [if_pos h4, if_pos (by omega)]
        · rw [if_neg h4, if_neg (by omega)])
    refine ⟨R, .next ?_ h1, h2, h3⟩
    unfold M.spf_Hops_l3
    simp only [Int.toNat_natCast, Nat.zero_add]
    rw [show decide ((k : Int) < (L0.length : Int)) = true from decide_eq_true (by omega), cond_true, gdT (by simp; omega), hLk, sort_eq (by omega), Option.bind_some, gdT (by simp only [List.all_cons, List.all_nil, Bool.and_true, id]; exact decide_eq_true hlen), c1, Option.bind_some, gdT (by simp only [List.all_cons, List.all_nil, Bool.and_true, id, decide_eq_true c2, decide_eq_true c3]), c4, up1 (by omega)]
    rfl
theorem hops_ok {a0 : Int} (ha : a0 ≤ 64) {es : List TEdge} (he : es.length ≤ 900) (x : Int) {d : List Int} (hd : M.spf_Distances a0 es x = some d) (hD : Dist a0.toNat es x d) : ∃ H, M.spf_Hops a0 es x = some H ∧ H.length = a0.toNat ∧ (∀ i, i < a0.toNat → HAsc (H.getD i default) ∧ ∀ h, h ∈ H.getD i default ↔ HP a0.toNat es es x d i h) ∧ ∀ i, i < a0.toNat → (H.getD i default).length ≤ 1000 := by
  generalize hN : a0.toNat = n at hD
  have hn : n ≤ 64 := by omega
  have hd' : M.spf_Distances (n : Int) es x = some d := by
    obtain ⟨d', h1, h2, _⟩ := dist_ok (a0 := (n : Int)) (by omega) (es := es) (by omega) x
    rw [Int.toNat_natCast] at h2
    rw [h1, hD.uniq h2]
  obtain ⟨L, h1, h2⟩ := h_l1 (x := x) ha hN he hD.len es.length 0 (List.replicate n ([] : List THop)) (Nat.zero_add _) ⟨by simp, fun i hi h => by
    have : (List.replicate n ([] : List THop)).getD i default = [] := by simp [hi]
    rw [this]
    simp [HP], fun i hi => by simp [hi]⟩
  obtain ⟨H, h3, h4, h5⟩ := h_l3 hn h2.len (fun i hi => by have := h2.sz i hi; omega) n 0 L (Nat.zero_add _) h2.len (fun i hi => by rw [if_neg (by omega)])
  refine ⟨H, ?_, h4, fun i hi => ?_, fun i hi => ?_⟩
  · have e1 : loopM (M.spf_Hops_l1 es x (n : Int) d) (List.replicate n ([] : List THop), (0 : Int)) = some L := loopM_of h1
    have e2 : loopM (M.spf_Hops_l3 L) (L, (0 : Int)) = some H := loopM_of h3
    unfold M.spf_Hops
    rw [nodes_eq ha, Option.bind_some, hN]
    simp only [Int.toNat_natCast]
    rw [gdT (by simp; omega), hd', Option.bind_some, e1, Option.bind_some, e2, Option.bind_some]
  · rw [h5 i hi]
    refine ⟨(hset_ok _).1, fun h => ?_⟩
    rw [(hset_ok _).2 h, h2.mem i hi h, List.take_length]
  · rw [h5 i hi]
    have k1 := h2.sz i hi
    have k2 := ddp_len (sortP hcf (L.getD i default))
    have k3 : (sortP hcf (L.getD i default)).length = (L.getD i default).length := (sortP_ok hcf_swo (L.getD i default)).2.1.length_eq
    unfold hset
    omega
end Nv
