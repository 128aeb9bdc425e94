/- The longest among entries; entries that differ from their parents. No condition. -/
set_option maxRecDepth 100000
namespace Nv
def lgst {α : Type} (P : α → Bool) (w : α → Int) (d : α) (T : List α) : Nat → Option Nat
  | 0 => none
  | n + 1 => match lgst P w d T n with
    | none => bif P (T.getD n d) then some n else none
    | some b => bif P (T.getD n d) && decide (w (T.getD n d) > w (T.getD b d)) then some n else some b
theorem lgst_spec {α : Type} (P : α → Bool) (w : α → Int) (d : α) (T : List α) : ∀ n, (lgst P w d T n = none ∧ ∀ i, i < n → P (T.getD i d) = false) ∨ ∃ b, lgst P w d T n = some b ∧ b < n ∧ P (T.getD b d) = true ∧ ∀ i, i < n → P (T.getD i d) = true → w (T.getD i d) ≤ w (T.getD b d)
  | 0 => .inl ⟨rfl, fun i h => absurd h (Nat.not_lt_zero i)⟩
  | n + 1 => by
    have split : ∀ i, i < n + 1 → i < n ∨ i = n := fun i h => by omega
    rcases lgst_spec P w d T n with ⟨h1, h2⟩ | ⟨b, h1, h2, h3, h4⟩
    · unfold lgst
      rw [h1]
      cases hp : P (T.getD n d) with
      | true => exact .inr ⟨n, rfl, by omega, hp, fun i hi hq => by
          rcases split i hi with g | rfl
          · rw [h2 i g] at hq; cases hq
          · exact Int.le_refl _⟩
      | false => exact .inl ⟨rfl, fun i hi => by
          rcases split i hi with g | rfl
          · exact h2 i g
          · exact hp⟩
    · unfold lgst
      rw [h1]
      simp only
      cases hp : P (T.getD n d) && decide (w (T.getD n d) > w (T.getD b d)) with
      | true =>
        rw [Bool.and_eq_true, decide_eq_true_eq] at hp
        exact .inr ⟨n, rfl, by omega, hp.1, fun i hi hq => by
          rcases split i hi with g | rfl
          · have := h4 i g hq; omega
          · exact Int.le_refl _⟩
      | false =>
        refine .inr ⟨b, rfl, by omega, h3, fun i hi hq => ?_⟩
        rcases split i hi with g | rfl
        · exact h4 i g hq
        · rw [hq, Bool.true_and, decide_eq_false_iff_not] at hp
          omega
theorem getDmem {α : Type} {d : α} {T : List α} {i : Nat} (h : i < T.length) : T.getD i d ∈ T := by
  rw [List.getD_eq_getElem?_getD, List.getElem?_eq_getElem h, Option.getD_some]
  exact List.getElem_mem h
theorem memGetD {α : Type} {d x : α} {T : List α} (h : x ∈ T) : ∃ i, i < T.length ∧ T.getD i d = x := by
  obtain ⟨i, h1, h2⟩ := List.mem_iff_getElem.1 h
  exact ⟨i, h1, by rw [List.getD_eq_getElem?_getD, List.getElem?_eq_getElem h1, Option.getD_some, h2]⟩
theorem lgst_mem {α : Type} (P : α → Bool) (w : α → Int) (d : α) (T : List α) : (lgst P w d T T.length = none ∧ ∀ x ∈ T, P x = false) ∨ ∃ b, lgst P w d T T.length = some b ∧ b < T.length ∧ T.getD b d ∈ T ∧ P (T.getD b d) = true ∧ ∀ x ∈ T, P x = true → w x ≤ w (T.getD b d) := by
  rcases lgst_spec P w d T T.length with ⟨h1, h2⟩ | ⟨b, h1, h2, h3, h4⟩
  · refine .inl ⟨h1, fun x hx => ?_⟩
    obtain ⟨i, g1, rfl⟩ := memGetD (d := d) hx
    exact h2 i g1
  · refine .inr ⟨b, h1, h2, getDmem h2, h3, fun x hx hp => ?_⟩
    obtain ⟨i, g1, rfl⟩ := memGetD (d := d) hx
    exact h4 i g1 hp
def kept {α : Type} (w : α → Int) (cov act : α → α → Bool) (d : α) (T : List α) (x : α) : Bool := match lgst (fun p => decide (w p < w x) && cov p x) w d T T.length with
  | none => true
  | some b => !act (T.getD b d) x
structure Tab {α : Type} (w : α → Int) (cov act : α → α → Bool) (con : α → Int → Bool) (adr : α → Int) (T : List α) : Prop where
  nn : ∀ x ∈ T, 0 ≤ w x
  up : ∀ p ∈ T, ∀ x ∈ T, ∀ a, w p < w x → cov p x = true → con x a = true → con p a = true
  dn : ∀ p ∈ T, ∀ x ∈ T, ∀ a, con p a = true → con x a = true → w p < w x → cov p x = true
  un : ∀ p ∈ T, ∀ x ∈ T, ∀ a, con p a = true → con x a = true → w p = w x → p = x
  own : ∀ x ∈ T, con x (adr x) = true
  rfl : ∀ x, act x x = true
  symm : ∀ x y, act x y = true → act y x = true
  trans : ∀ x y z, act x y = true → act y z = true → act x z = true
section
variable {α : Type} {w : α → Int} {cov act : α → α → Bool} {con : α → Int → Bool} {adr : α → Int} {T : List α} {d : α}
theorem Tab.chain (t : Tab w cov act con adr T) (a : Int) : ∀ (m : Nat), ∀ x ∈ T, con x a = true → w x ≤ m → ∃ j ∈ T, kept w cov act d T j = true ∧ con j a = true ∧ w j ≤ w x ∧ act j x = true ∧ ∀ q ∈ T, kept w cov act d T q = true → con q a = true → w q ≤ w x → w q ≤ w j
  | m, x, hx, hc, hm => by
    rcases lgst_mem (fun p => decide (w p < w x) && cov p x) w d T with ⟨h1, h2⟩ | ⟨b, h1, h2, h3, h4, h5⟩
    · exact ⟨x, hx, by unfold kept; rw [h1], hc, Int.le_refl _, t.rfl x, fun q _ _ _ h => h⟩
    · cases hk : act (T.getD b d) x with
      | false => exact ⟨x, hx, by unfold kept; rw [h1]; simp only [hk, Bool.not_false], hc, Int.le_refl _, t.rfl x, fun q _ _ _ h => h⟩
      | true =>
        rw [Bool.and_eq_true, decide_eq_true_eq] at h4
        have hp := t.nn _ h3
        match m, hm with
        | 0, hm => omega
        | m + 1, hm =>
          obtain ⟨j, g1, g2, g3, g4, g5, g6⟩ := Tab.chain t a m _ h3 (t.up _ h3 _ hx a h4.1 h4.2 hc) (by omega)
          refine ⟨j, g1, g2, g3, by omega, t.trans _ _ _ g5 hk, fun q q1 q2 q3 q4 => ?_⟩
          have ne : w q ≠ w x := fun e => by
            have := t.un _ q1 _ hx a q3 hc e
            subst this
            unfold kept at q2
            rw [h1] at q2
            simp only [hk] at q2
            cases q2
          have lt : w q < w x := by omega
          have := h5 q q1 (by rw [Bool.and_eq_true, decide_eq_true_eq]; exact ⟨lt, t.dn _ q1 _ hx a q3 hc lt⟩)
          exact g6 q q1 q2 q3 this
def comp (w : α → Int) (cov act : α → α → Bool) (d : α) (T : List α) : List α := T.filter (kept w cov act d T)
theorem mem_comp {x : α} : x ∈ comp w cov act d T ↔ x ∈ T ∧ kept w cov act d T x = true := List.mem_filter
theorem Tab.keeps (t : Tab w cov act con adr T) (a : Int) :
    (lgst (fun x => con x a) w d T T.length = none ∧ lgst (fun x => con x a) w d (comp w cov act d T) (comp w cov act d T).length = none) ∨
    ∃ i k, lgst (fun x => con x a) w d T T.length = some i ∧ lgst (fun x => con x a) w d (comp w cov act d T) (comp w cov act d T).length = some k ∧ i < T.length ∧ k < (comp w cov act d T).length ∧ act (T.getD i d) ((comp w cov act d T).getD k d) = true := by
  rcases lgst_mem (fun x => con x a) w d T with ⟨h1, h2⟩ | ⟨i, h1, h2, h3, h4, h5⟩
  · rcases lgst_mem (fun x => con x a) w d (comp w cov act d T) with ⟨g1, g2⟩ | ⟨k, g1, g2, g3, g4, g5⟩
    · exact .inl ⟨h1, g1⟩
    · have := h2 _ (mem_comp.1 g3).1
      rw [this] at g4; cases g4
  · obtain ⟨j, q1, q2, q3, q4, q5, q6⟩ := t.chain (d := d) a (w (T.getD i d)).toNat _ h3 h4 (by have := t.nn _ h3; omega)
    rcases lgst_mem (fun x => con x a) w d (comp w cov act d T) with ⟨g1, g2⟩ | ⟨k, g1, g2, g3, g4, g5⟩
    · have := g2 _ (mem_comp.2 ⟨q1, q2⟩)
      rw [this] at q3; cases q3
    · obtain ⟨k1, k2⟩ := mem_comp.1 g3
      have a1 := g5 _ (mem_comp.2 ⟨q1, q2⟩) q3
      have a2 := q6 _ k1 k2 g4 (h5 _ k1 g4)
      have e := t.un _ q1 _ k1 a q3 g4 (by omega)
      rw [e] at q5
      exact .inr ⟨i, k, h1, g1, h2, g2, t.symm _ _ q5⟩
theorem Tab.again (t : Tab w cov act con adr T) : comp w cov act d (comp w cov act d T) = comp w cov act d T := by
  have key : ∀ x ∈ comp w cov act d T, kept w cov act d (comp w cov act d T) x = true := fun x hx => by
    obtain ⟨x1, x2⟩ := mem_comp.1 hx
    rcases lgst_mem (fun p => decide (w p < w x) && cov p x) w d (comp w cov act d T) with ⟨g1, g2⟩ | ⟨k, g1, g2, g3, g4, g5⟩
    · unfold kept; rw [g1]
    · unfold kept; rw [g1]
      simp only
      rw [Bool.and_eq_true, decide_eq_true_eq] at g4
      obtain ⟨k1, k2⟩ := mem_comp.1 g3
      rcases lgst_mem (fun p => decide (w p < w x) && cov p x) w d T with ⟨h1, h2⟩ | ⟨i, h1, h2, h3, h4, h5⟩
      · have := h2 _ k1
        rw [Bool.and_eq_false_iff, decide_eq_false_iff_not] at this
        rcases this with h | h
        · exact absurd g4.1 h
        · rw [g4.2] at h; cases h
      · rw [Bool.and_eq_true, decide_eq_true_eq] at h4
        have ha : act (T.getD i d) x = false := by
          unfold kept at x2
          rw [h1] at x2
          simpa using x2
        have cx := t.own x x1
        have ci := t.up _ h3 _ x1 (adr x) h4.1 h4.2 cx
        have ck := t.up _ k1 _ x1 (adr x) g4.1 g4.2 cx
        obtain ⟨j, q1, q2, q3, q4, q5, q6⟩ := t.chain (d := d) (adr x) (w (T.getD i d)).toNat _ h3 ci (by have := t.nn _ h3; omega)
        have b1 := h5 _ k1 (by rw [Bool.and_eq_true, decide_eq_true_eq]; exact g4)
        have b2 := q6 _ k1 k2 ck b1
        have b3 := g5 _ (mem_comp.2 ⟨q1, q2⟩) (by
          rw [Bool.and_eq_true, decide_eq_true_eq]
          exact ⟨by omega, t.dn _ q1 _ x1 (adr x) q3 cx (by omega)⟩)
        have e := t.un _ q1 _ k1 (adr x) q3 ck (by omega)
        rw [e] at q5
        cases hz : act ((comp w cov act d T).getD k d) x with
        | false => rfl
        | true => rw [t.trans _ _ _ (t.symm _ _ q5) hz] at ha; cases ha
  unfold comp at key ⊢
  exact List.filter_eq_self.2 key
end
end Nv
