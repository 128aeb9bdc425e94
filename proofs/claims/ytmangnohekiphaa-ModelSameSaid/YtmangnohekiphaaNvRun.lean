/- Plain laws on counted loops in their total form. -/
import Derived.Test.YtmangnohekiphaaNvTot
namespace Nv
open Go

theorem runN_congr {β : Type} {g g' : Nat → Option β} {e : β} : ∀ {k i : Nat}, (∀ j, i ≤ j → j < i + k → g j = g' j) → runN g e i k = runN g' e i k
  | 0, _, _ => rfl
  | k + 1, i, h => by
    unfold runN
    rw [h i (Nat.le_refl _) (by omega), runN_congr (k := k) (i := i + 1) fun j h1 h2 => h j (by omega) (by omega)]
theorem runN_congr0 {β : Type} {g g' : Nat → Option β} {e : β} {n : Nat} (h : ∀ j, j < n → g j = g' j) : runN g e 0 n = runN g' e 0 n := runN_congr fun j _ h2 => h j (by omega)
/-- The index of a search. -/
def idxN (c : Nat → Bool) (n : Nat) : Int := Sum.elim (fun _ => (-1 : Int)) (fun y => y) (runN (fun j => bif c j then some (.inr (j : Int)) else none) (.inl () : Unit ⊕ Int) 0 n)
theorem idxN_cases (c : Nat → Bool) (n : Nat) : (∃ j, j < n ∧ c j = true ∧ (∀ l, l < j → c l = false) ∧ idxN c n = (j : Int)) ∨ (idxN c n = -1 ∧ ∀ l, l < n → c l = false) := by
  unfold idxN
  rcases runN_cases (fun j => bif c j then some (.inr (j : Int)) else none) (.inl () : Unit ⊕ Int) n 0 with ⟨j, h1, h2, h3, h4⟩ | ⟨h1, h2⟩
  · left
    simp only [Nat.zero_add] at h2
    cases hc : c j with
    | false => simp [hc] at h3
    | true =>
      simp only [hc, cond_true, Option.some.injEq] at h3
      refine ⟨j, h2, hc, fun l hl => ?_, by rw [← h3]; rfl⟩
      have := h4 l (Nat.zero_le _) hl
      cases hcl : c l with
      | false => rfl
      | true => simp [hcl] at this
  · right
    refine ⟨by rw [h1]; rfl, fun l hl => ?_⟩
    have := h2 l (Nat.zero_le _) (by omega)
    cases hcl : c l with
    | false => rfl
    | true => simp [hcl] at this
/-- Some number below n. -/
def anyN (c : Nat → Bool) : Nat → Bool
  | 0 => false
  | n + 1 => anyN c n || c n
theorem anyN_true {c : Nat → Bool} : ∀ {n : Nat}, anyN c n = true ↔ ∃ j, j < n ∧ c j = true
  | 0 => by simp [anyN]
  | n + 1 => by
    unfold anyN
    rw [Bool.or_eq_true, anyN_true]
    constructor
    · rintro (⟨j, h1, h2⟩ | h)
      · exact ⟨j, by omega, h2⟩
      · exact ⟨n, by omega, h⟩
    · rintro ⟨j, h1, h2⟩
      rcases Nat.lt_or_ge j n with h | h
      · exact .inl ⟨j, h, h2⟩
      · obtain rfl : j = n := by omega
        exact .inr h2
theorem anyN_false {c : Nat → Bool} {n : Nat} : anyN c n = false ↔ ∀ j, j < n → c j = false := by
  constructor
  · intro h j hj
    cases hc : c j with
    | false => rfl
    | true =>
      have := anyN_true.2 ⟨j, hj, hc⟩
      rw [h] at this; cases this
  · intro h
    cases ha : anyN c n with
    | false => rfl
    | true =>
      obtain ⟨j, h1, h2⟩ := anyN_true.1 ha
      rw [h j h1] at h2; cases h2
theorem anyN_congr {c c' : Nat → Bool} {n : Nat} (h : ∀ j, j < n → c j = c' j) : anyN c n = anyN c' n := by
  cases hb : anyN c' n with
  | false => exact anyN_false.2 fun j hj => by rw [h j hj]; exact anyN_false.1 hb j hj
  | true => obtain ⟨j, h1, h2⟩ := anyN_true.1 hb; exact anyN_true.2 ⟨j, h1, by rw [h j h1]; exact h2⟩
/-- A loop that leaves with one value wherever a test holds. -/
theorem runN_any {β : Type} (c : Nat → Bool) (v e : β) (n : Nat) : runN (fun k => bif c k then some v else none) e 0 n = bif anyN c n then v else e := by
  rcases runN_cases (fun k => bif c k then some v else none) e n 0 with ⟨j, h1, h2, h3, h4⟩ | ⟨h1, h2⟩
  · cases hc : c j with
    | false => simp [hc] at h3
    | true =>
      simp only [hc, cond_true, Option.some.injEq] at h3
      rw [anyN_true.2 ⟨j, by omega, hc⟩, ← h3]; rfl
  · rw [h1, anyN_false.2 fun j hj => ?_]
    · rfl
    · have := h2 j (Nat.zero_le _) (by omega)
      cases hcl : c j with
      | false => rfl
      | true => simp [hcl] at this
theorem idx_neg (c : Nat → Bool) (n : Nat) : decide (idxN c n < 0) = !anyN c n := by
  rcases idxN_cases c n with ⟨j, h1, h2, h3, h4⟩ | ⟨h1, h2⟩
  · rw [h4, anyN_true.2 ⟨j, h1, h2⟩]; simp
  · rw [h1, anyN_false.2 h2]; rfl
theorem idx_ge (c : Nat → Bool) (n : Nat) : decide (idxN c n ≥ 0) = anyN c n := by
  rcases idxN_cases c n with ⟨j, h1, h2, h3, h4⟩ | ⟨h1, h2⟩
  · rw [h4, anyN_true.2 ⟨j, h1, h2⟩]; simp
  · rw [h1, anyN_false.2 h2]; rfl
theorem idx_before {c : Nat → Bool} {n i : Nat} (hi : i < n) (hc : c i = true) : decide (idxN c n < (i : Int)) = anyN c i := by
  rcases idxN_cases c n with ⟨j, h1, h2, h3, h4⟩ | ⟨h1, h2⟩
  · rw [h4]
    rcases Nat.lt_or_ge j i with h | h
    · rw [anyN_true.2 ⟨j, h, h2⟩]; simp [h]
    · rw [anyN_false.2 fun l hl => h3 l (by omega)]; simp [h]
  · rw [h2 i hi] at hc; cases hc
theorem take_getD {α : Type} [Inhabited α] (l : List α) {k i : Nat} (h : k < i) : ((l.drop 0).take (i - 0)).getD k default = l.getD k default := by
  simp [List.getElem?_take, h]
theorem strEq_rfl (s : ByteArray) : strEq s s = true := by unfold strEq; simp
/-- The first of a list that is not 0. -/
def fnz : List Int → Int
  | [] => 0
  | x :: l => bif x != 0 then x else fnz l
theorem runN_fnz_from (l : List Int) : ∀ (k i : Nat), i + k = l.length → Sum.elim (fun _ => (0 : Int)) (fun y => y) (runN (fun j => bif (l.getD j default) != 0 then some (.inr (l.getD j default)) else none) (.inl () : Unit ⊕ Int) i k) = fnz (l.drop i)
  | 0, i, h => by rw [List.drop_eq_nil_of_le (by omega)]; rfl
  | k + 1, i, h => by
    have hi : i < l.length := by omega
    have e : l.getD i default = l[i] := by simp [hi]
    rw [List.drop_eq_getElem_cons hi]
    unfold runN fnz
    rw [e]
    cases hb : l[i] != 0 with
    | true => rfl
    | false => exact runN_fnz_from l k (i + 1) (by omega)
theorem runN_fnz (l : List Int) : Sum.elim (fun _ => (0 : Int)) (fun y => y) (runN (fun j => bif (l.getD j default) != 0 then some (.inr (l.getD j default)) else none) (.inl () : Unit ⊕ Int) 0 l.length) = fnz l := runN_fnz_from l l.length 0 (by omega)
end Nv
