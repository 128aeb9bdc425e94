/- The least costs of the reference. No condition. -/
import Derived.Test.YtlhpjcjjnbfmbaaNvY2
set_option maxRecDepth 100000
namespace Nv
open Go
theorem good_eq (n : Nat) (hn : n ≤ 64) (e : TEdge) : ∃ b, M.ref15_good e n = some b ∧ (b = true ↔ Us n e) := by
  have w : ∀ a b c : Int, M.ref15_within a b c = some ((decide (b ≤ a)) && (decide (a ≤ c))) := fun a b c => rfl
  have hw : wr .i64 ((n : Int) - 1) = (n : Int) - 1 := wr_i64 (by omega)
  unfold M.ref15_good
  rw [w, Option.bind_some, hw, w]
  by_cases h1 : 0 ≤ e.fFrom ∧ e.fFrom ≤ (n : Int) - 1
  · rw [show ((decide (0 ≤ e.fFrom)) && (decide (e.fFrom ≤ (n : Int) - 1))) = true by simpa using h1]
    simp only [gc, cond_true, Option.bind_some]
    by_cases h2 : 0 ≤ e.fTo ∧ e.fTo ≤ (n : Int) - 1
    · rw [show ((decide (0 ≤ e.fTo)) && (decide (e.fTo ≤ (n : Int) - 1))) = true by simpa using h2, w]
      refine ⟨_, rfl, ?_⟩
      simp only [Bool.and_self, Bool.true_and, Bool.and_eq_true, decide_eq_true_eq]
      exact ⟨fun h => ⟨h1.1, by omega, h2.1, by omega, h.1, h.2⟩, fun h => ⟨h.c0, h.c1⟩⟩
    · rw [show ((decide (0 ≤ e.fTo)) && (decide (e.fTo ≤ (n : Int) - 1))) = false by rw [Bool.eq_false_iff]; simpa using h2]
      exact ⟨false, rfl, ⟨(fun h => by cases h), fun h => absurd ⟨h.t0, by have := h.t1; omega⟩ h2⟩⟩
  · rw [show ((decide (0 ≤ e.fFrom)) && (decide (e.fFrom ≤ (n : Int) - 1))) = false by rw [Bool.eq_false_iff]; simpa using h1]
    exact ⟨false, rfl, ⟨(fun h => by cases h), fun h => absurd ⟨h.f0, by have := h.f1; omega⟩ h1⟩⟩
theorem clampN {a0 : Int} {n : Nat} (ha : a0 ≤ 64) (hN : a0.toNat = n) : (if (if 64 < a0 then 64 else a0) > 0 then (if 64 < a0 then 64 else a0) else 0) = (n : Int) := by
  split <;> split at * <;> omega
theorem f_l1 {a0 : Int} {n : Nat} (ha : a0 ≤ 64) (hN : a0.toNat = n) (x : Int) : ∀ (k i : Nat) (l : List Int), i + k = n → l.length = n → (∀ j, j < i → l.getD j default = if (j : Int) = x then 0 else -1) → ∃ r, Iter (M.ref15_Distances_l1 a0 x) (l, (i : Int)) r ∧ r.length = n ∧ ∀ j, j < n → r.getD j default = if (j : Int) = x then 0 else -1 := by
  intro k
  induction k with
  | zero =>
    intro i l h hl hj
    refine ⟨l, .out ?_, hl, fun j h1 => hj j (by omega)⟩
    unfold M.ref15_Distances_l1
    rw [clampN ha hN, show decide ((i : Int) < (n : Int)) = false from decide_eq_false (by omega)]
    rfl
  | succ k ih =>
    intro i l h hl hj
    have hil : i < l.length := by omega
    have st : M.ref15_Distances_l1 a0 x (l, (i : Int)) = some (.inl (l.set i (if (i : Int) = x then 0 else -1), ((i + 1 : Nat) : Int))) := by
      unfold M.ref15_Distances_l1 M.ref15_Distances_k1
      rw [clampN ha hN, show decide ((i : Int) < (n : Int)) = true from decide_eq_true (by omega), cond_true]
      simp only [Int.toNat_natCast, Nat.zero_add]
      rw [gdT (by simp; omega), up1 (by omega)]
      by_cases hx : (i : Int) = x
      · rw [show ((i : Int) == x) = true by simpa using hx, cond_true, gdT (by simp; omega), if_pos hx, List.set_set]
      · rw [show ((i : Int) == x) = false by simpa using hx, cond_false, if_neg hx]
    obtain ⟨r, h1, h2⟩ := ih (i + 1) (l.set i (if (i : Int) = x then 0 else -1)) (by omega) (by simpa using hl) (fun j hj' => by
      rw [gset hil]
      by_cases h3 : j = i
      · subst h3; rw [if_pos rfl]
      · rw [if_neg h3]; exact hj j (by omega))
    exact ⟨r, .next st h1, h2⟩
structure Bf (n : Nat) (es : List TEdge) (x : Int) (ds : List Int) (k t : Nat) (d : List Int) : Prop where
  len : d.length = n
  ach : ∀ i, i < n → 0 ≤ d.getD i default → Walk n es x i (d.getD i default)
  neg : ∀ i, i < n → d.getD i default < 0 → d.getD i default = -1
  le : ∀ i, i < n → 0 ≤ ds.getD i default → 0 ≤ d.getD i default ∧ d.getD i default ≤ ds.getD i default
  edge : ∀ e ∈ es.take k, Us n e → 0 ≤ ds.getD e.fFrom.toNat default → 0 ≤ d.getD e.fTo.toNat default ∧ d.getD e.fTo.toNat default ≤ ds.getD e.fFrom.toNat default + e.fCost
  bnd : ∀ i, i < n → d.getD i default ≤ (t : Int) * 16777215
theorem f_l3 {a0 : Int} {n : Nat} (ha : a0 ≤ 64) (hN : a0.toNat = n) {es : List TEdge} (he : es.length ≤ 1000) {x : Int} {ds : List Int} : ∀ (m k t : Nat) (d : List Int), k + m = es.length → t + m ≤ 1000000 → Bf n es x ds k t d → ∃ r, Iter (M.ref15_Distances_l3 a0 es) (d, (k : Int)) r ∧ Bf n es x ds es.length (t + m) r := by
  intro m
  induction m with
  | zero =>
    intro k t d h _ hr
    refine ⟨d, .out ?_, by rw [show es.length = k by omega]; exact hr⟩
    unfold M.ref15_Distances_l3
    rw [show decide ((k : Int) < (es.length : Int)) = false from decide_eq_false (by omega)]
    rfl
  | succ m ih =>
    intro k t d h ht hr
    have hk : k < es.length := by omega
    have hmem : es.getD k default ∈ es := by rw [List.getD_eq_getElem?_getD, List.getElem?_eq_getElem hk]; exact List.getElem_mem hk
    generalize hE : es.getD k default = e at hmem
    obtain ⟨b, hb, hbu⟩ := good_eq n (by omega) e
    have hlen := hr.len
    have q1 : decide ((k : Int) < (es.length : Int)) = true := decide_eq_true (by omega)
    have bump : ∀ i, i < n → d.getD i default ≤ ((t + 1 : Nat) : Int) * 16777215 := fun i hi => by have := hr.bnd i hi; omega
    have same : (∀ e' ∈ [e], Us n e' → 0 ≤ ds.getD e'.fFrom.toNat default → 0 ≤ d.getD e'.fTo.toNat default ∧ d.getD e'.fTo.toNat default ≤ ds.getD e'.fFrom.toNat default + e'.fCost) → Bf n es x ds (k + 1) (t + 1) d := fun hno => ⟨hlen, hr.ach, hr.neg, hr.le, fun e' h1 h2 h3 => by
      rw [etake hk, hE] at h1
      rcases List.mem_append.1 h1 with h4 | h4
      · exact hr.edge e' h4 h2 h3
      · exact hno e' h4 h2 h3, bump⟩
    have fin : ∀ d', Bf n es x ds (k + 1) (t + 1) d' → M.ref15_Distances_l3 a0 es (d, (k : Int)) = some (.inl (d', ((k + 1 : Nat) : Int))) → ∃ r, Iter (M.ref15_Distances_l3 a0 es) (d, (k : Int)) r ∧ Bf n es x ds es.length (t + (m + 1)) r := fun d' h1 h2 => by
      obtain ⟨r, h3, h4⟩ := ih (k + 1) (t + 1) d' (by omega) (by omega) h1
      exact ⟨r, .next h2 h3, by rw [show t + (m + 1) = t + 1 + m by omega]; exact h4⟩
    by_cases hu : Us n e
    · have hbt : b = true := hbu.2 hu
      have u1 := hu.f0
      have u2 := hu.f1
      have u3 := hu.t0
      have u4 := hu.t1
      have u5 := hu.c0
      have u6 := hu.c1
      have hfn : e.fFrom.toNat < n := by omega
      have htn : e.fTo.toNat < d.length := by omega
      have q3 : decide (0 ≤ e.fFrom) = true := decide_eq_true u1
      have q4 : decide (e.fFrom < (d.length : Int)) = true := decide_eq_true (by omega)
      have q5 : decide (0 ≤ e.fTo) = true := decide_eq_true u3
      have q6 : decide (e.fTo < (d.length : Int)) = true := decide_eq_true (by omega)
      have bb := hr.bnd _ hfn
      have hfd := hr.le _ hfn
      have hnf := hr.neg _ hfn
      have hw : wr .i64 (d.getD e.fFrom.toNat default + e.fCost) = d.getD e.fFrom.toNat default + e.fCost := by
        rcases Int.lt_or_le (d.getD e.fFrom.toNat default) 0 with h1 | h1
        · have := hnf h1; exact wrN (by omega) (by omega)
        · exact wrN (by omega) (by omega)
      have st : M.ref15_Distances_l3 a0 es (d, (k : Int)) = bif (decide (d.getD e.fFrom.toNat default ≥ 0)) && ((decide (d.getD e.fTo.toNat default < 0)) || (decide (d.getD e.fFrom.toNat default + e.fCost < d.getD e.fTo.toNat default))) then some (.inl (d.set e.fTo.toNat (d.getD e.fFrom.toNat default + e.fCost), ((k + 1 : Nat) : Int))) else some (.inl (d, ((k + 1 : Nat) : Int))) := by
        unfold M.ref15_Distances_l3 M.ref15_Distances_k2
        simp only [Int.toNat_natCast, Nat.zero_add, hE, clampN ha hN, hw]
        rw [q1, cond_true, gdT (by simp), hb, Option.bind_some, hbt, gdT (by simp only [List.all_cons, List.all_nil, q3, q4, q5, q6, guardB_t, id, Bool.and_self]), up1 (by omega)]
        simp only [Bool.true_and]
        rw [gdT (by simp only [List.all_cons, List.all_nil, q3, q4, q5, q6, guardB_t, id, Bool.and_self])]
      by_cases hc : 0 ≤ d.getD e.fFrom.toNat default ∧ (d.getD e.fTo.toNat default < 0 ∨ d.getD e.fFrom.toNat default + e.fCost < d.getD e.fTo.toNat default)
      · rw [show ((decide (d.getD e.fFrom.toNat default ≥ 0)) && ((decide (d.getD e.fTo.toNat default < 0)) || (decide (d.getD e.fFrom.toNat default + e.fCost < d.getD e.fTo.toNat default)))) = true by simpa using hc, cond_true] at st
        refine fin _ ⟨by simpa using hlen, fun i hi h0 => ?_, fun i hi h0 => ?_, fun i hi h0 => ?_, fun e' h1 h2 h3 => ?_, fun i hi => ?_⟩ st
        · rw [gset htn] at h0 ⊢
          split
          · rename_i hie
            have := hr.ach _ hfn hc.1
            rw [Int.toNat_of_nonneg u1] at this
            have h4 := Walk.snoc this e hmem hu rfl
            rw [hie, Int.toNat_of_nonneg u3]
            exact h4
          · rename_i hie
            rw [if_neg hie] at h0
            exact hr.ach i hi h0
        · rw [gset htn] at h0 ⊢
          split at h0
          · omega
          · rename_i hie; rw [if_neg hie]; exact hr.neg i hi h0
        · rw [gset htn]
          have h4 := hr.le i hi h0
          split
          · rename_i hie; subst hie; omega
          · exact h4
        · rw [etake hk, hE] at h1
          rw [gset htn]
          split
          · rename_i hie
            rcases List.mem_append.1 h1 with h6 | h6
            · have h7 := hr.edge e' h6 h2 h3
              rw [hie] at h7
              omega
            · rw [List.mem_singleton.1 h6] at h3 ⊢
              have := hfd h3
              omega
          · rename_i hie
            rcases List.mem_append.1 h1 with h6 | h6
            · exact hr.edge e' h6 h2 h3
            · rw [List.mem_singleton.1 h6] at hie; exact absurd rfl hie
        · rw [gset htn]
          split
          · omega
          · exact bump i hi
      · rw [show ((decide (d.getD e.fFrom.toNat default ≥ 0)) && ((decide (d.getD e.fTo.toNat default < 0)) || (decide (d.getD e.fFrom.toNat default + e.fCost < d.getD e.fTo.toNat default)))) = false by rw [Bool.eq_false_iff]; simpa using hc, cond_false] at st
        refine fin _ (same fun e' h1 h2 h3 => ?_) st
        rw [List.mem_singleton.1 h1] at h3 ⊢
        have := hfd h3
        omega
    · have hbf : b = false := by cases b with | false => rfl | true => exact absurd (hbu.1 rfl) hu
      refine fin d (same fun e' h1 h2 => by rw [List.mem_singleton.1 h1] at h2; exact absurd h2 hu) ?_
      unfold M.ref15_Distances_l3 M.ref15_Distances_k2
      simp only [Int.toNat_natCast, Nat.zero_add, hE, clampN ha hN]
      rw [q1, cond_true, gdT (by simp), hb, Option.bind_some, hbf, gdT (by simp only [List.all_cons, List.all_nil, Bool.false_and, guardB, cond_false, id, Bool.and_self]), up1 (by omega)]
      rfl
def cntN (p : Nat → Bool) : Nat → Nat
  | 0 => 0
  | n + 1 => cntN p n + (bif p n then 1 else 0)
theorem cntN_le {p q : Nat → Bool} : ∀ {n : Nat}, (∀ i, i < n → p i = true → q i = true) → cntN p n ≤ cntN q n
  | 0, _ => Nat.le_refl _
  | n + 1, h => by
    have h1 := cntN_le (p := p) (q := q) (n := n) fun i hi => h i (by omega)
    have h2 := h n (by omega)
    simp only [cntN]
    cases hp : p n with
    | false => simp only [cond_false]; omega
    | true => rw [h2 hp]; simp only [cond_true]; omega
theorem cntN_lt {p q : Nat → Bool} : ∀ {n : Nat}, (∀ i, i < n → p i = true → q i = true) → (∃ i, i < n ∧ q i = true ∧ p i = false) → cntN p n + 1 ≤ cntN q n
  | 0, _, ⟨i, hi, _⟩ => by omega
  | n + 1, h, ⟨i, hi, h1, h2⟩ => by
    simp only [cntN]
    by_cases hin : i = n
    · subst hin
      have h3 := cntN_le (p := p) (q := q) (n := i) fun j hj => h j (by omega)
      rw [h1, h2]; simp only [cond_true, cond_false]; omega
    · have h3 := cntN_lt (p := p) (q := q) (n := n) (fun j hj => h j (by omega)) ⟨i, by omega, h1, h2⟩
      have h4 := h n (by omega)
      cases hp : p n with
      | false => simp only [cond_false]; omega
      | true => rw [h4 hp]; simp only [cond_true]; omega
theorem cntN_max (p : Nat → Bool) : ∀ n, cntN p n ≤ n
  | 0 => Nat.le_refl _
  | n + 1 => by have := cntN_max p n; simp only [cntN]; cases p n <;> simp only [cond_true, cond_false] <;> omega
theorem cntN_zero {p : Nat → Bool} {n : Nat} (h : cntN p n = 0) {i : Nat} (hi : i < n) : p i = false := by
  cases hp : p i with
  | false => rfl
  | true =>
    have := cntN_lt (p := fun _ => false) (q := p) (n := n) (fun _ _ h => by cases h) ⟨i, hi, hp, rfl⟩
    omega
def badP (ds d : List Int) (i : Nat) : Bool := decide (0 ≤ ds.getD i default) && !(d.getD i default == ds.getD i default)
theorem bad_edge {n : Nat} {es : List TEdge} {x : Int} {dz d : List Int} (hz : Dist n es x dz) {y c : Int} (hw : Walk n es x y c) (h0 : d.getD x.toNat default = dz.getD x.toNat default) : c = dz.getD y.toNat default → d.getD y.toNat default = dz.getD y.toNat default ∨
    ∃ e ∈ es, Us n e ∧ 0 ≤ dz.getD e.fFrom.toNat default ∧ d.getD e.fFrom.toNat default = dz.getD e.fFrom.toNat default ∧ dz.getD e.fTo.toNat default = dz.getD e.fFrom.toNat default + e.fCost ∧ d.getD e.fTo.toNat default ≠ dz.getD e.fTo.toNat default := by
  induction hw with
  | nil => exact fun _ => .inl h0
  | snoc hw e he hu hf ih =>
    intro hc
    have hfn : e.fFrom.toNat < n := by have := hu.f0; have := hu.f1; omega
    have h1 := hz.low e.fFrom.toNat hfn
    rw [Int.toNat_of_nonneg hu.f0] at h1
    have h2 := h1 _ (by rw [hf]; exact hw)
    have h3 := hz.edge he hu h2.1
    rw [← hf] at ih
    rcases ih (by omega) with h4 | h4
    · by_cases h5 : d.getD e.fTo.toNat default = dz.getD e.fTo.toNat default
      · exact .inl h5
      · exact .inr ⟨e, he, hu, h2.1, h4, by omega, h5⟩
    · exact .inr h4
theorem f_l2 {a0 : Int} {n : Nat} (ha : a0 ≤ 64) (hN : a0.toNat = n) {es : List TEdge} (he : es.length ≤ 1000) {x : Nat} (hx : x < n) {dz : List Int} (hz : Dist n es x dz) : ∀ (m i t : Nat) (d : List Int), i + m = n → t = i * es.length → d.length = n → d.getD x default = 0 → (∀ i, i < n → 0 ≤ d.getD i default → Walk n es x i (d.getD i default)) → (∀ i, i < n → d.getD i default < 0 → d.getD i default = -1) →
    (∀ i, i < n → d.getD i default ≤ (t : Int) * 16777215) → cntN (badP dz d) n ≤ m → ∃ r, Iter (M.ref15_Distances_l2 a0 es) (d, (i : Int)) r ∧ Dist n es x r := by
  intro m
  induction m with
  | zero =>
    intro i t d h _ hl h0 hach hneg _ hbad
    refine ⟨d, .out ?_, ?_⟩
    · unfold M.ref15_Distances_l2
      rw [clampN ha hN, show decide ((i : Int) < (n : Int)) = false from decide_eq_false (by omega)]
      rfl
    · have hall : ∀ j, j < n → 0 ≤ dz.getD j default → d.getD j default = dz.getD j default := fun j hj h1 => by
        have := cntN_zero (show cntN (badP dz d) n = 0 by omega) hj
        unfold badP at this
        rw [decide_eq_true h1, Bool.true_and] at this
        simpa using this
      refine ⟨hl, hach, fun j hj c hw => ?_, hneg⟩
      have h1 := hz.low j hj c hw
      rw [hall j hj h1.1]; exact h1
  | succ m ih =>
    intro i t d h ht hl h0 hach hneg hbnd hbad
    have hti : t ≤ 64 * 1000 := by
      rw [ht]; exact Nat.mul_le_mul (by omega) he
    obtain ⟨r, h1, h2⟩ := f_l3 (x := (x : Int)) (ds := d) ha hN he es.length 0 t d (Nat.zero_add _) (by omega) ⟨hl, hach, hneg, fun i _ h => ⟨h, Int.le_refl _⟩, fun e h => by simp at h, hbnd⟩
    have hedge : ∀ e ∈ es, Us n e → 0 ≤ d.getD e.fFrom.toNat default → 0 ≤ r.getD e.fTo.toNat default ∧ r.getD e.fTo.toNat default ≤ d.getD e.fFrom.toNat default + e.fCost := fun e he' => h2.edge e (by simpa using he')
    have hrx : r.getD x default = 0 := by
      have h3 := h2.le x hx (by omega)
      omega
    -- what was least stays least
    have stay : ∀ j, j < n → 0 ≤ dz.getD j default → d.getD j default = dz.getD j default → r.getD j default = dz.getD j default := fun j hj h3 h4 => by
      have h5 := h2.le j hj (by omega)
      have h6 := hz.low j hj _ (h2.ach j hj h5.1)
      omega
    have hsub : ∀ j, j < n → badP dz r j = true → badP dz d j = true := fun j hj h3 => by
      unfold badP at h3 ⊢
      simp only [Bool.and_eq_true, decide_eq_true_eq, Bool.not_eq_true', beq_eq_false_iff_ne] at h3 ⊢
      exact ⟨h3.1, fun h4 => h3.2 (stay j hj h3.1 h4)⟩
    have hb : cntN (badP dz r) n ≤ m := by
      by_cases hz0 : cntN (badP dz d) n = 0
      · have := cntN_le hsub; omega
      · have hex : ∃ j, j < n ∧ badP dz d j = true := by
          rcases Classical.em (∃ j, j < n ∧ badP dz d j = true) with h3 | h3
          · exact h3
          · exfalso
            have := cntN_le (p := badP dz d) (q := fun _ => false) (n := n) fun j hj hb => absurd ⟨j, hj, hb⟩ h3
            have hq : ∀ n, cntN (fun _ => false) n = 0 := fun n => by
              induction n with
              | zero => rfl
              | succ n ihn => simp only [cntN, ihn, cond_false]
            rw [hq] at this
            omega
        obtain ⟨j, hj, hbj⟩ := hex
        unfold badP at hbj
        simp only [Bool.and_eq_true, decide_eq_true_eq, Bool.not_eq_true', beq_eq_false_iff_ne] at hbj
        have hzx := hz.self hx
        rcases bad_edge (d := d) hz (hz.ach j hj hbj.1) (by rw [Int.toNat_natCast, h0, hzx]) (by rw [Int.toNat_natCast]) with h3 | ⟨e, g1, g2, g3, g4, g5, g6⟩
        · rw [Int.toNat_natCast] at h3; exact absurd h3 hbj.2
        · have htn : e.fTo.toNat < n := by have := g2.t0; have := g2.t1; omega
          have h3 := hedge e g1 g2 (by omega)
          have h4 := hz.low e.fTo.toNat htn _ (h2.ach _ htn h3.1)
          have hlt := cntN_lt hsub ⟨e.fTo.toNat, htn, by
            unfold badP
            simp only [Bool.and_eq_true, decide_eq_true_eq, Bool.not_eq_true', beq_eq_false_iff_ne]
            exact ⟨h4.1, g6⟩, by
            unfold badP
            rw [show (r.getD e.fTo.toNat default == dz.getD e.fTo.toNat default) = true by simp only [beq_iff_eq]; omega]
            simp⟩
          omega
    obtain ⟨q, h5, h6⟩ := ih (i + 1) (t + es.length) r (by omega) (by rw [ht, Nat.succ_mul]) h2.len hrx h2.ach h2.neg h2.bnd hb
    refine ⟨q, .next ?_ h5, h6⟩
    unfold M.ref15_Distances_l2
    rw [clampN ha hN, show decide ((i : Int) < (n : Int)) = true from decide_eq_true (by omega), cond_true, show (0 : Int) = ((0 : Nat) : Int) from rfl, loopM_of h1, Option.bind_some, up1 (by omega)]
theorem rdist_ok {a0 : Int} (ha : a0 ≤ 64) {es : List TEdge} (he : es.length ≤ 1000) (x : Int) : ∃ d, M.ref15_Distances a0 es x = some d ∧ Dist a0.toNat es x d := by
  obtain ⟨dz, _, hz, _⟩ := dist_ok ha he x
  generalize hN : a0.toNat = n at hz
  have hn : n ≤ 64 := by omega
  obtain ⟨r, h1, h2, h3⟩ := f_l1 ha hN x n 0 (List.replicate n (0 : Int)) (Nat.zero_add _) (by simp) (fun j hj => by omega)
  have e1 : loopM (M.ref15_Distances_l1 a0 x) (List.replicate n (0 : Int), (0 : Int)) = some r := loopM_of h1
  unfold M.ref15_Distances
  rw [clampN ha hN, Int.toNat_natCast, gdT (by simp; omega), e1, Option.bind_some]
  by_cases hx : 0 ≤ x ∧ x < n
  · obtain ⟨x, rfl⟩ : ∃ k : Nat, x = k := ⟨x.toNat, by omega⟩
    have hxn : x < n := by omega
    obtain ⟨q, h4, h5⟩ := f_l2 ha hN he hxn hz n 0 0 r (Nat.zero_add _) (by simp) h2 (by rw [h3 x hxn, if_pos rfl]) (fun i hi h0 => by
      rw [h3 i hi] at h0 ⊢
      split
      · rename_i h; rw [h]; exact .nil
      · rename_i h; rw [if_neg h] at h0; omega) (fun i hi h0 => by
      rw [h3 i hi] at h0 ⊢
      split at h0
      · omega
      · rename_i h; rw [if_neg h]) (fun i hi => by rw [h3 i hi]; split <;> omega) (cntN_max _ _)
    have e2 : loopM (M.ref15_Distances_l2 a0 es) (r, (0 : Int)) = some q := loopM_of h4
    exact ⟨q, by rw [e2, Option.bind_some], h5⟩
  · -- no node to begin at: nothing is reached
    have hr : ∀ j, j < n → r.getD j default = -1 := fun j hj => by rw [h3 j hj, if_neg (by omega)]
    have loop : ∀ (m i : Nat), i + m = n → Iter (M.ref15_Distances_l2 a0 es) (r, (i : Int)) r := by
      intro m
      induction m with
      | zero =>
        intro i h
        refine .out ?_
        unfold M.ref15_Distances_l2
        rw [clampN ha hN, show decide ((i : Int) < (n : Int)) = false from decide_eq_false (by omega)]
        rfl
      | succ m ih =>
        intro i h
        obtain ⟨q, k1, k2⟩ := f_l3 (x := x) (ds := r) ha hN he es.length 0 0 r (Nat.zero_add _) (by omega) ⟨h2, fun i hi h => by rw [hr i hi] at h; omega, fun i hi _ => hr i hi, fun i _ h => ⟨h, Int.le_refl _⟩, fun e h => by simp at h, fun i hi => by rw [hr i hi]; omega⟩
        have hq : q = r := getD_ext (k2.len.trans h2.symm) fun j hj => by
          have hjn : j < n := by have := k2.len; omega
          rw [hr j hjn]
          rcases Int.lt_or_le (q.getD j default) 0 with h4 | h4
          · exact k2.neg j hjn h4
          · exact absurd ((k2.ach j hjn h4).inside ⟨by omega, by omega⟩) hx
        rw [hq] at k1
        refine .next ?_ (ih (i + 1) (by omega))
        unfold M.ref15_Distances_l2
        rw [clampN ha hN, show decide ((i : Int) < (n : Int)) = true from decide_eq_true (by omega), cond_true, show (0 : Int) = ((0 : Nat) : Int) from rfl, loopM_of k1, Option.bind_some, up1 (by omega)]
    have e2 : loopM (M.ref15_Distances_l2 a0 es) (r, (0 : Int)) = some r := loopM_of (loop n 0 (Nat.zero_add _))
    exact ⟨r, by rw [e2, Option.bind_some], .none hx h2 hr⟩
end Nv
