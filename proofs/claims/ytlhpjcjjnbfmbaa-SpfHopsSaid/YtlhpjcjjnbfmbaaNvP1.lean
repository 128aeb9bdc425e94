/- The plain law of SpfHops: the program's hops are the reference's. -/
import Derived.Test.YtlhpjcjjnbfmbaaNvY4
import Derived.Test.YtlhpjcjjnbfmbaaNvY3
import Derived.Test.YtlhpjcjjnbfmbaaNvHr
import Derived.Test.YtlhpjcjjnbfmbaaNvV1
import Derived.Test.YtlhpjcjjnbfmbaaNvS1
set_option maxRecDepth 100000
namespace Nv
open Go
theorem rdist_n {n : Nat} (hn : n ≤ 64) {es : List TEdge} (he : es.length ≤ 900) (x : Int) : ∃ r, M.ref15_Distances (n : Int) es x = some r ∧ Dist n es x r ∧ ∀ i, i < n → r.getD i default ≤ 1073741760 := by
  obtain ⟨r, h1, h2⟩ := rdist_ok (a0 := (n : Int)) (by omega) (es := es) (by omega) x
  obtain ⟨d, _, h3, h4⟩ := dist_ok (a0 := (n : Int)) (by omega) (es := es) (by omega) x
  rw [Int.toNat_natCast] at h2 h3 h4
  obtain rfl := h2.uniq h3
  exact ⟨r, h1, h2, h4⟩
theorem o_l2 {a0 : Int} {n : Nat} (ha : a0 ≤ 64) (hN : a0.toNat = n) {es : List TEdge} {x : Int} {d r : List Int} (hd : d.length = n) (hr : r.length = n) (br : ∀ i, i < n → r.getD i default ≤ 1073741760) {k0 : Nat} {e : TEdge} (hE : es.getD k0 default = e) (hu : Us n e) {L0 p0 : List (List THop)} (hL0 : ∀ i, i < n → HAsc (L0.getD i default) ∧ (L0.getD i default).length ≤ 1000) :
    ∀ (m k : Nat) (L : List (List THop)), k + m = n → L.length = n → (∀ i, i < n → HAsc (L.getD i default) ∧ (∀ h, h ∈ L.getD i default ↔ h ∈ L0.getD i default ∨ (i < k ∧ Add x d r e.fCost i ∧ h = e.fHop)) ∧ (L.getD i default).length ≤ (L0.getD i default).length + 1 ∧ (k ≤ i → L.getD i default = L0.getD i default)) →
    ∃ R, Iter (M.ref15_HopsOf_l2 a0 es x d (p0, (k0 : Int)) r) (L, (k : Int)) R ∧ R.length = n ∧ ∀ i, i < n → HAsc (R.getD i default) ∧ (∀ h, h ∈ R.getD i default ↔ h ∈ L0.getD i default ∨ (Add x d r e.fCost i ∧ h = e.fHop)) ∧ (R.getD i default).length ≤ (L0.getD i default).length + 1 := by
  intro m
  induction m with
  | zero =>
    intro k L h hl hL
    refine ⟨L, .out ?_, hl, fun i hi => ⟨(hL i hi).1, fun h' => ?_, (hL i hi).2.2.1⟩⟩
    · unfold M.ref15_HopsOf_l2
      rw [clampN ha hN, show decide ((k : Int) < (n : Int)) = false from decide_eq_false (by omega)]
      rfl
    · rw [(hL i hi).2.1 h']
      exact ⟨fun h1 => h1.imp (fun h => h) fun h2 => h2.2, fun h1 => h1.imp (fun h => h) fun h2 => ⟨by omega, h2⟩⟩
  | succ m ih =>
    intro k L h hl hL
    have hk : k < n := by omega
    have q1 : decide (0 ≤ (k : Int)) = true := decide_eq_true (by omega)
    have q2 : decide ((k : Int) < (r.length : Int)) = true := decide_eq_true (by omega)
    have q3 : decide ((k : Int) < (d.length : Int)) = true := decide_eq_true (by omega)
    have q4 : decide ((k : Int) < (L.length : Int)) = true := decide_eq_true (by omega)
    have hkL : k < L.length := by omega
    have cont : ∀ L', M.ref15_HopsOf_k2 (L, (k : Int)) L' = some (.inl (L', ((k + 1 : Nat) : Int))) := fun L' => by unfold M.ref15_HopsOf_k2; rw [up1 (by omega)]
    have hLk := hL k hk
    have h0k := hL0 k hk
    by_cases hA : Add x d r e.fCost k
    · obtain ⟨a1, a2, a3⟩ := hA
      have b1 := br k hk
      have u1 := hu.c0
      have u2 := hu.c1
      have hw : wr .i64 (e.fCost + r.getD k default) = e.fCost + r.getD k default := wrN (by omega) (by omega)
      obtain ⟨l', g1, g2, g3, g4⟩ := addHop_ok (l := L.getD k default) (by omega) hLk.1 e.fHop
      have st : M.ref15_HopsOf_l2 a0 es x d (p0, (k0 : Int)) r (L, (k : Int)) = some (.inl (L.set k l', ((k + 1 : Nat) : Int))) := by
        unfold M.ref15_HopsOf_l2
        simp only [Int.toNat_natCast, Nat.zero_add, hE, cont, hw]
        rw [clampN ha hN, show decide ((k : Int) < (n : Int)) = true from decide_eq_true (by omega), cond_true, gdT (by simp only [List.all_cons, List.all_nil, q1, q2, q3, guardB_t, id, Bool.and_self])]
        rw [show ((((k : Int) != x) && (decide (r.getD k default ≥ 0))) && (e.fCost + r.getD k default == d.getD k default)) = true by
          simp only [Bool.and_eq_true, bne_iff_ne, ne_eq, decide_eq_true_eq, beq_iff_eq]; exact ⟨⟨a1, a2⟩, a3⟩, cond_true, g1, Option.bind_some, gdT (by simp only [List.all_cons, List.all_nil, q1, q4, id, Bool.and_self])]
      obtain ⟨R, h1, h2, h3⟩ := ih (k + 1) (L.set k l') (by omega) (by simpa using hl) (fun i hi => by
        have hi' := hL i hi
        rw [lset hkL]
        by_cases hik : i = k
        · subst hik
          rw [if_pos rfl]
          rw [hi'.2.2.2 (Nat.le_refl _)] at g3 g4
          refine ⟨g2, fun h' => ?_, g4, fun h' => by omega⟩
          rw [g3 h']
          exact ⟨fun h4 => h4.imp (fun h => h) fun h5 => ⟨by omega, ⟨a1, a2, a3⟩, h5⟩, fun h4 => h4.imp (fun h => h) fun h5 => h5.2.2⟩
        · rw [if_neg hik]
          refine ⟨hi'.1, fun h' => ?_, hi'.2.2.1, fun h' => hi'.2.2.2 (by omega)⟩
          rw [hi'.2.1 h']
          exact ⟨fun h4 => h4.imp (fun h => h) fun h5 => ⟨by omega, h5.2⟩, fun h4 => h4.imp (fun h => h) fun h5 => ⟨by omega, h5.2⟩⟩)
      exact ⟨R, .next st h1, h2, h3⟩
    · have st : M.ref15_HopsOf_l2 a0 es x d (p0, (k0 : Int)) r (L, (k : Int)) = some (.inl (L, ((k + 1 : Nat) : Int))) := by
        unfold M.ref15_HopsOf_l2
        simp only [Int.toNat_natCast, Nat.zero_add, hE, cont]
        rw [clampN ha hN, show decide ((k : Int) < (n : Int)) = true from decide_eq_true (by omega), cond_true, gdT (by simp only [List.all_cons, List.all_nil, q1, q2, q3, guardB_t, id, Bool.and_self])]
        rw [show ((((k : Int) != x) && (decide (r.getD k default ≥ 0))) && (wr .i64 (e.fCost + r.getD k default) == d.getD k default)) = false by
          rw [Bool.eq_false_iff]
          simp only [ne_eq, Bool.and_eq_true, bne_iff_ne, decide_eq_true_eq, beq_iff_eq]
          rintro ⟨⟨a1, a2⟩, a3⟩
          have b1 := br k hk
          have u1 := hu.c0
          have u2 := hu.c1
          rw [wrN (by omega) (by omega)] at a3
          exact hA ⟨a1, a2, a3⟩, cond_false]
      obtain ⟨R, h1, h2, h3⟩ := ih (k + 1) L (by omega) hl (fun i hi => by
        have hi' := hL i hi
        refine ⟨hi'.1, fun h' => ?_, hi'.2.2.1, fun h' => hi'.2.2.2 (by omega)⟩
        rw [hi'.2.1 h']
        refine ⟨fun h4 => h4.imp (fun h => h) fun h5 => ⟨by omega, h5.2⟩, fun h4 => h4.imp (fun h => h) fun h5 => ⟨?_, h5.2⟩⟩
        rcases Nat.lt_or_ge i k with h6 | h6
        · exact h6
        · have : i = k := by omega
          subst this
          exact absurd h5.2.1 hA)
      exact ⟨R, .next st h1, h2, h3⟩
theorem o_l1 {a0 : Int} {n : Nat} (ha : a0 ≤ 64) (hN : a0.toNat = n) {es : List TEdge} (he : es.length ≤ 900) {x : Int} {d : List Int} (hd : d.length = n) : ∀ (m k : Nat) (L : List (List THop)), k + m = es.length → Hd n es x d k L → (∀ i, i < n → HAsc (L.getD i default)) → ∃ R, Iter (M.ref15_HopsOf_l1 a0 es x d) (L, (k : Int)) R ∧ Hd n es x d es.length R ∧ ∀ i, i < n → HAsc (R.getD i default) := by
  intro m
  induction m with
  | zero =>
    intro k L h hL hA
    refine ⟨L, .out ?_, by rwa [show es.length = k by omega], hA⟩
    unfold M.ref15_HopsOf_l1
    rw [show decide ((k : Int) < (es.length : Int)) = false from decide_eq_false (by omega)]
    rfl
  | succ m ih =>
    intro k L h hL hA
    have hk : k < es.length := by omega
    generalize hE : es.getD k default = e
    have hn : n ≤ 64 := by omega
    obtain ⟨b, hb, hbu⟩ := good_eq n hn e
    have cont : ∀ L', M.ref15_HopsOf_k1 (L, (k : Int)) L' = some (.inl (L', ((k + 1 : Nat) : Int))) := fun L' => by unfold M.ref15_HopsOf_k1; rw [up1 (by omega)]
    by_cases hyes : Us n e ∧ e.fFrom = x
    · obtain ⟨hu, hf⟩ := hyes
      obtain ⟨r, hr, hR, bR⟩ := rdist_n hn he e.fTo
      obtain ⟨R, h1, h2, h3⟩ := o_l2 (es := es) (x := x) (p0 := L) (L0 := L) ha hN hd hR.len bR hE hu (fun i hi => ⟨hA i hi, by have := hL.sz i hi; omega⟩) n 0 L (Nat.zero_add _) hL.len (fun i hi => ⟨hA i hi, fun h' => ⟨.inl, fun h4 => h4.elim (fun h => h) fun h5 => by omega⟩, Nat.le_succ _, fun _ => rfl⟩)
      obtain ⟨Q, h4, h5⟩ := ih (k + 1) R (by omega) ⟨h2, fun i hi h' => by
        rw [(h3 i hi).2.1 h', etake hk, hE, hp_snoc, hL.mem i hi h', hp_one hu hf hR hi], fun i hi => by have := (h3 i hi).2.2; have := hL.sz i hi; omega⟩ (fun i hi => (h3 i hi).1)
      refine ⟨Q, .next ?_ h4, h5⟩
      have e2 : loopM (M.ref15_HopsOf_l2 a0 es x d (L, (k : Int)) r) (L, (0 : Int)) = some R := loopM_of h1
      unfold M.ref15_HopsOf_l1
      simp only [Int.toNat_natCast, hE]
      rw [clampN ha hN, show decide ((k : Int) < (es.length : Int)) = true from decide_eq_true (by omega), cond_true, gdT (by simp), hb, Option.bind_some, hbu.2 hu, show (e.fFrom != x) = false by simp [hf]]
      simp only [Bool.not_true, Bool.or_self, cond_false]
      rw [hr, Option.bind_some, e2, Option.bind_some, cont]
    · obtain ⟨Q, h4, h5⟩ := ih (k + 1) L (by omega) ⟨hL.len, fun i hi h' => by
        rw [etake hk, hE, hp_snoc, hL.mem i hi h']
        exact ⟨.inl, fun h6 => h6.elim (fun h => h) fun ⟨e', g1, g2, g3, _⟩ => by rw [List.mem_singleton.1 g1] at g2 g3; exact absurd ⟨g2, g3⟩ hyes⟩, fun i hi => by have := hL.sz i hi; omega⟩ hA
      refine ⟨Q, .next ?_ h4, h5⟩
      unfold M.ref15_HopsOf_l1
      simp only [Int.toNat_natCast, hE]
      rw [clampN ha hN, show decide ((k : Int) < (es.length : Int)) = true from decide_eq_true (by omega), cond_true, gdT (by simp), hb, Option.bind_some, show ((!b) || (e.fFrom != x)) = true by
        cases b with
        | false => rfl
        | true =>
          have hu := hbu.1 rfl
          have : e.fFrom ≠ x := fun h => hyes ⟨hu, h⟩
          simpa using this, cond_true, cont]
theorem rhops_ok {a0 : Int} (ha : a0 ≤ 64) {es : List TEdge} (he : es.length ≤ 900) (x : Int) {d : List Int} (hD : Dist a0.toNat es x d) : ∃ H, M.ref15_HopsOf a0 es x = some H ∧ H.length = a0.toNat ∧ ∀ i, i < a0.toNat → HAsc (H.getD i default) ∧ ∀ h, h ∈ H.getD i default ↔ HP a0.toNat es es x d i h := by
  generalize hN : a0.toNat = n at hD
  have hn : n ≤ 64 := by omega
  obtain ⟨r, hr, hR, _⟩ := rdist_n hn he x
  obtain rfl := hD.uniq hR
  have hrep : ∀ i, i < n → (List.replicate n ([] : List THop)).getD i default = [] := fun i hi => by simp [hi]
  obtain ⟨L, h1, h2, h3⟩ := o_l1 (x := x) ha hN he hD.len es.length 0 (List.replicate n ([] : List THop)) (Nat.zero_add _) ⟨by simp, fun i hi h => by
    rw [hrep i hi]
    simp [HP], fun i hi => by simp [hi]⟩ (fun i hi => by rw [hrep i hi]; exact List.Pairwise.nil)
  have e1 : loopM (M.ref15_HopsOf_l1 a0 es x d) (List.replicate n ([] : List THop), (0 : Int)) = some L := loopM_of h1
  refine ⟨L, ?_, h2.len, fun i hi => ⟨h3 i hi, fun h => by rw [h2.mem i hi h, List.take_length]⟩⟩
  unfold M.ref15_HopsOf
  rw [clampN ha hN, hr, Option.bind_some, Int.toNat_natCast, gdT (by simp; omega), e1, Option.bind_some]
theorem hops_rfl {l : List THop} (hl : l.length ≤ 1000) : M.keep_Hops l l = some true := by
  have loop : ∀ (k i : Nat), i + k = l.length → Iter (M.keep_Hops_l1 l l) (i : Int) (.inl ()) := by
    intro k
    induction k with
    | zero =>
      intro i h
      refine .out ?_
      unfold M.keep_Hops_l1
      rw [show decide ((i : Int) < (l.length : Int)) = false from decide_eq_false (by omega)]
      rfl
    | succ k ih =>
      intro i h
      refine .next ?_ (ih (i + 1) (by omega))
      unfold M.keep_Hops_l1
      rw [show decide ((i : Int) < (l.length : Int)) = true from decide_eq_true (by omega), cond_true, gdT (by simp), up1 (by omega)]
      simp
  unfold M.keep_Hops
  have e : loopM (M.keep_Hops_l1 l l) 0 = some (.inl ()) := loopM_of (loop l.length 0 (Nat.zero_add _))
  rw [bne_self_eq_false, cond_false, e]
  rfl
theorem plain_SpfHops (a0 : Int) (a1 : List TEdge) (a2 : Int) (_w0 : (Lit.int .i64 a0).wf = true) (_w1 : a1.length ≤ maxLen ∧ a1.length * 40 ≤ reachBytes ∧ ∀ y ∈ a1, W_TEdge y) (_w2 : (Lit.int .i64 a2).wf = true) : M.law15_SpfHops a0 a1 a2 = some true := by
  unfold M.law15_SpfHops M.law15_few
  rw [Option.bind_some]
  cases hf : ((decide (a0 ≤ 12)) && (decide ((a1.length : Int) ≤ 60))) with
  | false => rfl
  | true =>
    simp only [Bool.and_eq_true, decide_eq_true_eq] at hf
    obtain ⟨d, hd, hD, _⟩ := dist_ok (a0 := a0) (by omega) (es := a1) (by omega) a2
    obtain ⟨H, hH, hl, hP, hsz⟩ := hops_ok (a0 := a0) (by omega) (es := a1) (by omega) a2 hd hD
    obtain ⟨G, hG, gl, gP⟩ := rhops_ok (a0 := a0) (by omega) (es := a1) (by omega) a2 hD
    have heq : ∀ i, i < H.length → H.getD i default = G.getD i default := fun i hi => by
      have hi' : i < a0.toNat := by omega
      exact hasc_ext (hP i hi').1 (gP i hi').1 fun h => ((hP i hi').2 h).trans ((gP i hi').2 h).symm
    have loop : ∀ (k i : Nat), i + k = H.length → Iter (M.law15_SpfHops_l1 H G) (i : Int) (.inl ()) := by
      intro k
      induction k with
      | zero =>
        intro i h
        refine .out ?_
        unfold M.law15_SpfHops_l1
        rw [show decide ((i : Int) < (H.length : Int)) = false from decide_eq_false (by omega)]
        rfl
      | succ k ih =>
        intro i h
        refine .next ?_ (ih (i + 1) (by omega))
        have hi : i < H.length := by omega
        unfold M.law15_SpfHops_l1
        simp only [Int.toNat_natCast]
        rw [show decide ((i : Int) < (H.length : Int)) = true from decide_eq_true (by omega), cond_true, ← heq i hi, hops_rfl (hsz i (by omega)), Option.bind_some, gdT (by simp; omega), up1 (by omega)]
        rfl
    have el : loopM (M.law15_SpfHops_l1 H G) (0 : Int) = some (.inl ()) := loopM_of (loop H.length 0 (Nat.zero_add _))
    simp only [Bool.not_true, cond_false]
    rw [hH, Option.bind_some, hG, Option.bind_some, show ((H.length : Int) != (G.length : Int)) = false by simp [hl, gl], cond_false, el, Option.bind_some]
    simp only [Sum.elim_inl]
    rw [sane_some]
    rfl
end Nv
