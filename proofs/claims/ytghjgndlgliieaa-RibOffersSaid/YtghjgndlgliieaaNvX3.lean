/- What redistributed routes are like. No condition. -/
import Derived.Test.YtghjgndlgliieaaNvX2
set_option maxRecDepth 100000
namespace Nv
open Go
theorem wi_t {a b c : Int} (h : S.ref8_within a b c = true) : b ≤ a ∧ a ≤ c := by unfold S.ref8_within at h; simpa using h
theorem wi_15 {a b c : Int} (h1 : b ≤ a) (h2 : a ≤ c) : S.ref15_within a b c = true := by unfold S.ref15_within; simp [h1, h2]
theorem gD {α : Type} [Inhabited α] {l : List α} {i : Nat} (hi : i < l.length) : l.getD i default = l[i] := by simp [hi]
theorem el_go {g : Nat → Option (Unit ⊕ Int)} {n : Nat} {k : Option (Unit ⊕ Int)} (h0 : ∀ i y, g i = some y → ∃ e, y = .inr e ∧ e ≠ 0) (h : (Sum.elim (fun _ => k) (fun y11 => some (.inr y11)) (runN g (.inl ()) 0 n) : Option (Unit ⊕ Int)) = none) : (∀ i, i < n → g i = none) ∧ k = none := by
  rcases runN_cases g (.inl ()) n 0 with ⟨j, _, _, h1, _⟩ | ⟨h1, h2⟩
  · obtain ⟨e, h3, _⟩ := h0 j _ h1
    rw [h3] at h; cases h
  · rw [h1] at h
    exact ⟨fun i hi => h2 i (Nat.zero_le _) (by omega), h⟩
theorem el_some2 {g : Nat → Option (Unit ⊕ Int)} {n : Nat} {k : Option (Unit ⊕ Int)} {y : Unit ⊕ Int} (hk : ∀ y, k = some y → ∃ e, y = .inr e ∧ e ≠ 0) (h0 : ∀ i y, g i = some y → ∃ e, y = .inr e ∧ e ≠ 0) (h : (Sum.elim (fun _ => k) (fun y11 => some (.inr y11)) (runN g (.inl ()) 0 n) : Option (Unit ⊕ Int)) = some y) : ∃ e, y = .inr e ∧ e ≠ 0 := by
  rcases runN_cases g (.inl ()) n 0 with ⟨j, _, _, h1, _⟩ | ⟨h1, _⟩
  · obtain ⟨e, h3, h4⟩ := h0 j _ h1
    rw [h3] at h
    exact ⟨e, (Option.some.inj h).symm, h4⟩
  · rw [h1] at h; exact hk y h
theorem red_in {r : TRouter} {l : List TRedist} {a b c : Int} (h : S.ref8_redistributions r l a b c = 0) {d : TRedist} (hd : d ∈ l) : d.fFrom ≠ a ∧ b ≤ d.fMetric ∧ d.fMetric ≤ c ∧ 0 ≤ d.fTag ∧ d.fTag ≤ 65535 := by
  obtain ⟨i, hi, rfl⟩ := List.getElem_of_mem hd
  have h1 := (red_ok h).2 i hi
  unfold S.ref8_redistributions_l1 at h1
  simp only [letS] at h1
  have h2 := (cond_non h1).1
  rw [gD hi] at h2
  simp only [Bool.or_eq_false_iff, Bool.not_eq_false'] at h2
  obtain ⟨⟨⟨h3, h4⟩, h5⟩, h6⟩ := h2
  simp only [h3, h4, Bool.not_true, Bool.not_false, Bool.or_false, cond_true] at h5
  simp only [h3, h4, h5, Bool.not_true, Bool.not_false, Bool.or_false, cond_true] at h6
  have h7 := wi_t h5
  have h8 := wi_t h6
  exact ⟨by simpa using h4, h7.1, h7.2, h8.1, h8.2⟩
theorem rm_l2_val (r : TRouter) (i k : Nat) (y : Unit ⊕ Int) (h : S.ref8_routeMaps_l2 r i k = some y) : ∃ e, y = .inr e ∧ e ≠ 0 := by
  unfold S.ref8_routeMaps_l2 at h
  rcases cond_or h with ⟨_, rfl⟩ | ⟨_, h⟩
  · exact ⟨4, rfl, by decide⟩
  · cases h
theorem rm_l3_val (r : TRouter) (i k : Nat) (y : Unit ⊕ Int) (h : S.ref8_routeMaps_l3 r i k = some y) : ∃ e, y = .inr e ∧ e ≠ 0 := by
  unfold S.ref8_routeMaps_l3 at h
  simp only [letS] at h
  rcases cond_or h with ⟨_, rfl⟩ | ⟨_, h⟩
  · exact ⟨5, rfl, by decide⟩
  rcases cond_or h with ⟨_, rfl⟩ | ⟨_, h⟩
  · exact ⟨1, rfl, by decide⟩
  · cases h
theorem rm_l1_val (r : TRouter) (i : Nat) (y : Unit ⊕ Int) (h : S.ref8_routeMaps_l1 r i = some y) : ∃ e, y = .inr e ∧ e ≠ 0 := by
  unfold S.ref8_routeMaps_l1 at h
  simp only [letS] at h
  rcases cond_or h with ⟨_, rfl⟩ | ⟨_, h⟩
  · exact ⟨3, rfl, by decide⟩
  refine el_some2 (fun y hy => ?_) (rm_l2_val r i) h
  rcases cond_or hy with ⟨_, rfl⟩ | ⟨_, hy⟩
  · exact ⟨1, rfl, by decide⟩
  rcases cond_or hy with ⟨_, rfl⟩ | ⟨_, hy⟩
  · exact ⟨7, rfl, by decide⟩
  exact el_some (rm_l3_val r i) hy
theorem clause_in {r : TRouter} (h : S.ref8_routeMaps r = 0) {m k : Nat} (hm : m < r.fMaps.length) (hk : k < (r.fMaps.getD m default).fClauses.length) {c : TClause} (hc : (r.fMaps.getD m default).fClauses.getD k default = c) :
    -1 ≤ c.fSetTag ∧ c.fSetTag ≤ 65535 ∧ -1 ≤ c.fSetMetric ∧ c.fSetMetric ≤ 16777215 := by
  unfold S.ref8_routeMaps at h
  simp only [letS] at h
  have h1 := (run_z (rm_l1_val r) (cond_z (by decide) h).2).1 m hm
  unfold S.ref8_routeMaps_l1 at h1
  simp only [letS] at h1
  have h2 := (el_go (rm_l2_val r m) (cond_non h1).2).2
  have h3 := el_none (rm_l3_val r m) (cond_non (cond_non h2).2).2 k hk
  unfold S.ref8_routeMaps_l3 at h3
  simp only [letS, hc] at h3
  have h4 := (cond_non (cond_non h3).2).1
  simp only [Bool.or_eq_false_iff, Bool.not_eq_false'] at h4
  obtain ⟨⟨⟨⟨h5, h6⟩, h7⟩, _⟩, _⟩ := h4
  simp only [h5, Bool.not_true, Bool.not_false, cond_true] at h6
  simp only [h5, h6, Bool.not_true, Bool.not_false, Bool.or_false, cond_true] at h7
  exact ⟨(wi_t h6).1, (wi_t h6).2, (wi_t h7).1, (wi_t h7).2⟩
theorem val_ok {r : TRouter} (h : S.ref8_routeMaps r = 0) {d : TRedist} (hd : 0 ≤ d.fMetric ∧ d.fMetric ≤ 16777215 ∧ 0 ≤ d.fTag ∧ d.fTag ≤ 65535) (x : TRoute) (ht : (S.rib_values r d x).2.2 = true) :
    0 ≤ (S.rib_values r d x).1 ∧ (S.rib_values r d x).1 ≤ 16777215 ∧ 0 ≤ (S.rib_values r d x).2.1 ∧ (S.rib_values r d x).2.1 ≤ 65535 := by
  revert ht
  unfold S.rib_values
  cases strEq d.fMap (⟨#[]⟩ : ByteArray) with
  | true => exact fun _ => hd
  | false =>
    simp only [cond_false, letS]
    generalize S.model_RouteMap r d.fMap = m
    generalize S.policy_Clause r d.fMap x = k
    cases hb : ((((decide (m < 0)) || (decide (m ≥ (r.fMaps.length : Int)))) || (decide (k < 0))) || (decide (k ≥ (((r.fMaps.getD m.toNat default).fClauses).length : Int)))) with
    | true => intro ht; simp at ht
    | false =>
      simp only [Bool.or_eq_false_iff, decide_eq_false_iff_not] at hb
      have hc := clause_in (c := (r.fMaps.getD m.toNat default).fClauses.getD k.toNat default) h (m := m.toNat) (k := k.toNat) (by omega) (by omega) rfl
      simp only [cond_false]
      unfold S.rib_values_k1 S.rib_values_k2
      generalize (r.fMaps.getD m.toNat default).fClauses.getD k.toNat default = c at hc
      intro _
      by_cases h1 : c.fSetMetric = -1 <;> by_cases h2 : c.fSetTag = -1
      · simp only [h1, h2, bne_self_eq_false, cond_false]; omega
      · rw [show (c.fSetTag != -1) = true by simpa using h2]; simp only [h1, bne_self_eq_false, cond_false, cond_true]; omega
      · rw [show (c.fSetMetric != -1) = true by simpa using h1]; simp only [h2, bne_self_eq_false, cond_false, cond_true]; omega
      · rw [show (c.fSetTag != -1) = true by simpa using h2, show (c.fSetMetric != -1) = true by simpa using h1]; simp only [cond_true]; omega
structure Off (p : Int) (x y : TRoute) : Prop where
  pfx : y.fPrefix = x.fPrefix
  proto : y.fProto = p
  tag : 0 ≤ y.fTag ∧ y.fTag ≤ 65535
  met : 0 ≤ y.fMetric ∧ y.fMetric ≤ 16777215
  nil : y.fPath = [] ∧ y.fHops = []
  valid : p ≠ 3 → S.ref4_Valid x.fPrefix = true → S.ref15_Valid y = true
theorem valid4 {q : TPrefix} {ad m g : Int} (hq : S.ref4_Valid q = true) (ha : 1 ≤ ad ∧ ad ≤ 255) (hm : 1 ≤ m ∧ m ≤ 15) (hg : 0 ≤ g ∧ g ≤ 65535) : S.ref15_Valid ⟨q, 4, 2, ad, m, 0, g, 0, [], 0, 0, [], false⟩ = true := by
  unfold S.ref15_Valid
  simp only [letS, hq, wi_15 hg.1 hg.2, List.length_nil, runN]
  unfold S.ref15_validDistance
  simp only [letS, wi_15 ha.1 ha.2, wi_15 hm.1 hm.2]
  unfold S.ref15_plain
  rfl
theorem valid5 {q : TPrefix} {ad m g : Int} (hq : S.ref4_Valid q = true) (ha : 1 ≤ ad ∧ ad ≤ 255) (hm : 0 ≤ m ∧ m ≤ 16777215) (hg : 0 ≤ g ∧ g ≤ 65535) : S.ref15_Valid ⟨q, 5, 1, ad, m, 0, g, 100, [], 0, 0, [], false⟩ = true := by
  unfold S.ref15_Valid
  simp only [letS, hq, wi_15 hg.1 hg.2, List.length_nil, runN]
  unfold S.ref15_validPath
  simp only [letS, wi_15 ha.1 ha.2, wi_15 hm.1 hm.2, wi_15 (show (0 : Int) ≤ 100 by decide) (show (100 : Int) ≤ 1000000 by decide)]
  unfold S.ref15_plain S.ref15_validPath_k1
  rfl
theorem fz_ok {r : TRouter} {d : TRedist} {x : TRoute} {p m g : Int} (hp : p = 3 ∨ p = 4 ∨ p = 5) (hm : 0 ≤ m ∧ m ≤ 16777215) (hg : 0 ≤ g ∧ g ≤ 65535) (h4 : p = 4 → 1 ≤ r.fDV.fAdmin ∧ r.fDV.fAdmin ≤ 255) (h5 : p = 5 → 1 ≤ r.fPV.fInternal ∧ r.fPV.fInternal ≤ 255)
    (h : (fz r d (raw x p m g)).2 = true) : Off p x (fz r d (raw x p m g)).1 := by
  rcases hp with rfl | rfl | rfl
  · unfold fz raw
    cases d.fType == 1 <;> exact ⟨rfl, rfl, hg, hm, ⟨rfl, rfl⟩, fun h => absurd rfl h⟩
  · unfold fz raw at h ⊢
    have h1 : 1 ≤ m ∧ m ≤ 15 := by simpa using h
    exact ⟨rfl, rfl, hg, hm, ⟨rfl, rfl⟩, fun _ hq => valid4 hq (h4 rfl) h1 hg⟩
  · unfold fz raw
    exact ⟨rfl, rfl, hg, hm, ⟨rfl, rfl⟩, fun _ hq => valid5 hq (h5 rfl) hm hg⟩
theorem red_off {r : TRouter} {l : List TRedist} {p : Int} (hp : p = 3 ∨ p = 4 ∨ p = 5) (hR : S.ref8_routeMaps r = 0) (hl : ∀ d ∈ l, d.fFrom ≠ p ∧ 0 ≤ d.fMetric ∧ d.fMetric ≤ 16777215 ∧ 0 ≤ d.fTag ∧ d.fTag ≤ 65535)
    (h4 : l ≠ [] → p = 4 → 1 ≤ r.fDV.fAdmin ∧ r.fDV.fAdmin ≤ 255) (h5 : l ≠ [] → p = 5 → 1 ≤ r.fPV.fInternal ∧ r.fPV.fInternal ≤ 255) {x y : TRoute} (h : y ∈ redOf r l p x) :
    Off p x y ∧ x.fProto ≠ p ∧ l.any (fun d => d.fFrom == x.fProto) = true := by
  unfold redOf opt1 at h
  split at h
  · cases h
  · rename_i d hd
    have hm := List.mem_of_find?_eq_some hd
    have he : d.fFrom = x.fProto := by simpa using List.find?_some hd
    have hne : l ≠ [] := List.ne_nil_of_mem hm
    obtain ⟨g1, g2⟩ := hl d hm
    refine ⟨?_, by rw [← he]; exact g1, List.any_eq_true.2 ⟨d, hm, by simp [he]⟩⟩
    unfold one put at h
    revert h
    cases x.fDiscard && (x.fProto != 2)
    · cases hv : (S.rib_values r d x).2.2
      · simp
      · simp only [cond_false, Bool.not_true]
        obtain ⟨v1, v2, v3, v4⟩ := val_ok hR g2 x hv
        cases hf : (fz r d (raw x p (S.rib_values r d x).1 (S.rib_values r d x).2.1)).2
        · intro h; cases h
        · simp only [cond_true]
          intro h
          rw [List.mem_singleton.1 h]
          exact fz_ok hp ⟨v1, v2⟩ ⟨v3, v4⟩ (h4 hne) (h5 hne) hf
    · intro h; cases h
theorem dv_admin {r : TRouter} (h : S.ref8_distance r = 0) (hn : r.fDV.fRedist ≠ []) : 1 ≤ r.fDV.fAdmin ∧ r.fDV.fAdmin ≤ 255 := by
  unfold S.ref8_distance at h
  simp only [letS] at h
  cases ho : !r.fDV.fOn with
  | true =>
    rw [ho] at h
    simp only [cond_true] at h
    have h1 := (cond_z (by decide) h).1
    simp only [Bool.or_eq_false_iff, decide_eq_false_iff_not] at h1
    exact absurd (List.eq_nil_of_length_eq_zero (by omega)) hn
  | false =>
    rw [ho] at h
    simp only [cond_false] at h
    exact wi_t (by simpa using (cond_z (by decide) h).1)
theorem pv_admin {r : TRouter} (hs : r.fPV.fNeighbors.length ≤ 100 ∧ r.fPV.fNetworks.length ≤ 100 ∧ r.fPV.fAggregates.length ≤ 100 ∧ r.fPV.fConditions.length ≤ 100 ∧ r.fPV.fRedist.length ≤ 100) (h : S.ref8_pathVector r = 0) (hn : r.fPV.fRedist ≠ []) : 1 ≤ r.fPV.fInternal ∧ r.fPV.fInternal ≤ 255 := by
  unfold S.ref8_pathVector at h
  simp only [letS] at h
  cases ho : !r.fPV.fOn with
  | true =>
    rw [ho] at h
    simp only [cond_true] at h
    have h1 := (cond_z (by decide) h).1
    rw [wrN (n := (r.fPV.fNeighbors.length : Int) + (r.fPV.fNetworks.length : Int)) (by omega) (by omega), wrN (n := (r.fPV.fNeighbors.length : Int) + (r.fPV.fNetworks.length : Int) + (r.fPV.fAggregates.length : Int)) (by omega) (by omega), wrN (n := (r.fPV.fNeighbors.length : Int) + (r.fPV.fNetworks.length : Int) + (r.fPV.fAggregates.length : Int) + (r.fPV.fConditions.length : Int)) (by omega) (by omega), wrN (by omega) (by omega)] at h1
    simp only [Bool.or_eq_false_iff, decide_eq_false_iff_not] at h1
    exact absurd (List.eq_nil_of_length_eq_zero (by omega)) hn
  | false =>
    rw [ho] at h
    simp only [cond_false] at h
    have h1 := (cond_z (by decide) h).1
    simp only [Bool.or_eq_false_iff, Bool.not_eq_false'] at h1
    obtain ⟨⟨h2, h3⟩, h4⟩ := h1
    simp only [h2, Bool.not_false, cond_true] at h3
    simp only [h2, h3, Bool.not_true, Bool.or_false, Bool.not_false, cond_true] at h4
    exact wi_t h4
end Nv
