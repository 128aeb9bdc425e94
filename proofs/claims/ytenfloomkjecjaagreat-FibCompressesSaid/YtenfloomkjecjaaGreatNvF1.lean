/- The longest among entries; entries that differ from their parents. No condition. -/
set_option maxRecDepth 100000
namespace Nv
def lgst {α : Type} (P : α → Bool) (w : α → Int) (d : α) (T : List α) : Nat → Option Nat
  | 0 => none
  | n + 1 => match lgst P w d T n with
    | none => bif P (T.getD n d) then some n else none
    | some b => bif P (T.getD n d) && decide (w (T.getD n d) > w (T.getD b d)) then some n else some b
theorem lgst_spec {α : Type} (P : α → Bool) (w : α → Int) (d : α) (T : List α) : ∀ n, (lgst P w d T n = none ∧ ∀ i, i < n → P (T.getD i d) = false) ∨ ∃ b, lgst P w d T n = some b ∧ b < n ∧ P (T.getD b d) = true ∧ ∀ i, i < n → P (T.getD i d) = true → w (T.getD i d) ≤ w (T.getD b d)
  | 0 => .inl ⟨rfl, fun i h => absurd h (Nat.not_lt_zero i)⟩
  | n + 1 => by
    have split : ∀ i, i < n + 1 → i < n ∨ i = n := fun i h => by omega
    rcases lgst_spec P w d T n with ⟨h1, h2⟩ | ⟨b, h1, h2, h3, h4⟩
    · unfold lgst
      rw [h1]
      cases hp : P (T.getD n d) with
      | true => exact .inr ⟨n, rfl, by omega, hp, fun i hi hq => by
          rcases split i hi with g | rfl
          · rw [h2 i g] at hq; cases hq
          · exact Int.le_refl _⟩
      | false => exact .inl ⟨rfl, fun i hi => by
          rcases split i hi with g | rfl
          · exact h2 i g
          · exact hp⟩
    · unfold lgst
      rw [h1]
      simp only
      cases hp : P (T.getD n d) && decide (w (T.getD n d) > w (T.getD b d)) with
      | true =>
        rw [Bool.and_eq_true, decide_eq_true_eq] at hp
        exact .inr ⟨n, rfl, by omega, hp.1, fun i hi hq => by
          rcases split i hi with g | rfl
          · have := h4 i g hq; omega
          · exact Int.le_refl _⟩
      | false =>
        refine .inr ⟨b, rfl, by omega, h3, fun i hi hq => ?_⟩
        rcases split i hi with g | rfl
        · exact h4 i g hq
        · rw [hq, Bool.true_and, decide_eq_false_iff_not] at hp
          omega
theorem getDmem {α : Type} {d : α} {T : List α} {i : Nat} (h : i < T.length) : T.getD i d ∈ T := by
  rw [List.getD_eq_getElem?_getD, List.getElem?_eq_getElem h, Option.getD_some]
  exact List.getElem_mem h
theorem memGetD {α : Type} {d x : α} {T : List α} (h : x ∈ T) : ∃ i, i < T.length ∧ T.getD i d = x := by
  obtain ⟨i, h1, h2⟩ := List.mem_iff_getElem.1 h
  exact ⟨i, h1, by rw [List.getD_eq_getElem?_getD, List.getElem?_eq_getElem h1, Option.getD_some, h2]⟩
def kept {α : Type} (w : α → Int) (cov act : α → α → Bool) (d : α) (T : List α) (x : α) : Bool := match lgst (fun p => decide (w p < w x) && cov p x) w d T T.length with
  | none => true
  | some b => !act (T.getD b d) x
structure Tab {α : Type} (w : α → Int) (cov act : α → α → Bool) (con : α → Int → Bool) (adr : α → Int) (T : List α) : Prop where
  nn : ∀ x ∈ T, 0 ≤ w x
  up : ∀ p ∈ T, ∀ x ∈ T, ∀ a, w p < w x → cov p x = true → con x a = true → con p a = true
  dn : ∀ p ∈ T, ∀ x ∈ T, ∀ a, con p a = true → con x a = true → w p < w x → cov p x = true
  un : ∀ p ∈ T, ∀ x ∈ T, ∀ a, con p a = true → con x a = true → w p = w x → p = x
  own : ∀ x ∈ T, con x (adr x) = true
  rfl : ∀ x, act x x = true
  symm : ∀ x y, act x y = true → act y x = true
  trans : ∀ x y z, act x y = true → act y z = true → act x z = true
section
variable {α : Type} {w : α → Int} {cov act : α → α → Bool} {con : α → Int → Bool} {adr : α → Int} {T : List α} {d : α}
def comp (w : α → Int) (cov act : α → α → Bool) (d : α) (T : List α) : List α := T.filter (kept w cov act d T)
theorem mem_comp {x : α} : x ∈ comp w cov act d T ↔ x ∈ T ∧ kept w cov act d T x = true := List.mem_filter
end
end Nv
