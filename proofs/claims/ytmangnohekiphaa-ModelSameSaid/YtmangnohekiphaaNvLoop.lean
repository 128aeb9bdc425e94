/- Plain laws on counted loops. -/
import Derived.Test.YtmangnohekiphaaNvGen
namespace Nv
open Go Go.RowKit

theorem wr_up {i : Nat} {n : Nat} (h : i < n) (hn : n ≤ maxLen) : wr .i64 ((i : Int) + 1) = ((i + 1 : Nat) : Int) := by
  have : maxLen = 9223372036854775807 := rfl
  unfold wr
  rw [IntWalk.i64_in _ (by omega)]
  simp

/-- A loop that counts to n and may leave early: it leaves, and what it leaves with is as each round says. -/
theorem loop_total {β : Type} {f : Int → Option (Int ⊕ β)} {n : Nat} (Q : β → Prop) (step : ∀ i : Nat, i < n → f (i : Int) = some (.inl ((i + 1 : Nat) : Int)) ∨ ∃ y, Q y ∧ f (i : Int) = some (.inr y))
    (last : ∃ y, Q y ∧ f (n : Int) = some (.inr y)) : ∃ y, Q y ∧ loopM f 0 = some y := by
  have key : ∀ (k i : Nat), i + k = n → ∃ y, Q y ∧ Iter f (i : Int) y := by
    intro k
    induction k with
    | zero =>
      intro i h
      obtain rfl : i = n := by omega
      obtain ⟨y, h1, h2⟩ := last
      exact ⟨y, h1, .out h2⟩
    | succ k ih =>
      intro i h
      rcases step i (by omega) with h1 | ⟨y, h1, h2⟩
      · obtain ⟨y, h2, h3⟩ := ih (i + 1) (by omega)
        exact ⟨y, h2, .next h1 h3⟩
      · exact ⟨y, h1, .out h2⟩
  obtain ⟨y, h1, h2⟩ := key n 0 (by omega)
  exact ⟨y, h1, loopM_of h2⟩
/-- The test of an index within its bounds. -/
theorem gd_in {α : Type} {i n : Nat} (h : i < n) (k : Option α) : gd [decide (0 ≤ (i : Int)), decide ((i : Int) < (n : Int))] k = k := by
  have h1 : decide (0 ≤ (i : Int)) = true := by simp
  have h2 : decide ((i : Int) < (n : Int)) = true := by simpa using h
  rw [h1, h2]
  rfl
theorem lt_t {i n : Nat} (h : i < n) : decide ((i : Int) < (n : Int)) = true := by simpa using h
theorem lt_f {n : Nat} : decide ((n : Int) < (n : Int)) = false := by simp
theorem ge_t {i : Nat} : decide (0 ≤ (i : Int)) = true := by simp
theorem two_ways {β : Type} (b : Bool) (y : β) (x : Int) : (bif b then some (.inr y) else some (.inl x) : Option (Int ⊕ β)) = some (.inl x) ∨ ∃ z, True ∧ (bif b then some (.inr y) else some (.inl x) : Option (Int ⊕ β)) = some (.inr z) := by
  cases b
  · exact .inl rfl
  · exact .inr ⟨y, trivial, rfl⟩
theorem gd_tt {α : Type} (k : Option α) : gd [true, true] k = k := rfl
theorem gd_true {α : Type} {l : List Bool} (h : ∀ b ∈ l, b = true) (k : Option α) : gd l k = k := by
  unfold gd
  have : l.all id = true := List.all_eq_true.2 fun b hb => by simpa using h b hb
  rw [this]
  rfl
theorem guardB_t {g : Bool} : guardB g true = true := by cases g <;> rfl
/-- Two loops whose rounds agree wherever they come. -/
theorem iter_congr {α β : Type} {f f' : α → Option (α ⊕ β)} (J : α → Prop) (h : ∀ x, J x → f x = f' x) (hJ : ∀ x x', J x → f x = some (.inl x') → J x') {x : α} {y : β} (k : Iter f x y) : J x → Iter f' x y := by
  induction k with
  | out e => exact fun hx => .out ((h _ hx).symm.trans e)
  | next e _ ih => exact fun hx => .next ((h _ hx).symm.trans e) (ih (hJ _ _ hx e))
theorem loop_congr {α β : Type} {f f' : α → Option (α ⊕ β)} (J : α → Prop) (h : ∀ x, J x → f x = f' x) (hJ : ∀ x x', J x → f x = some (.inl x') → J x') {x : α} (hx : J x) : loopM f x = loopM f' x := by
  cases hf : loopM f x with
  | some y => exact (loopM_of (iter_congr J h hJ (loopM_iter hf) hx)).symm
  | none =>
    cases hg : loopM f' x with
    | none => rfl
    | some y =>
      have := loopM_of (iter_congr J (fun x hx => (h x hx).symm) (fun x x' hx e => hJ x x' hx ((h x hx).trans e)) (loopM_iter hg) hx)
      rw [hf] at this
      cases this

/-- A counted loop as a search. -/
def scan {β : Type} (g : Nat → Option β) : Nat → Nat → Option β
  | _, 0 => none
  | i, k + 1 => match g i with
    | some y => some y
    | none => scan g (i + 1) k
theorem loop_scan_from {β : Type} {f : Int → Option (Int ⊕ (Unit ⊕ β))} {n : Nat} {g : Nat → Option β} (hs : ∀ i : Nat, i < n → f (i : Int) = some (match g i with | none => .inl ((i + 1 : Nat) : Int) | some y => .inr (.inr y)))
    (hl : f (n : Int) = some (.inr (.inl ()))) : ∀ (k i : Nat), i + k = n → Iter f (i : Int) (match scan g i k with | none => .inl () | some y => .inr y) := by
  intro k
  induction k with
  | zero =>
    intro i h
    obtain rfl : i = n := by omega
    exact .out hl
  | succ k ih =>
    intro i h
    have h1 := hs i (by omega)
    unfold scan
    cases hg : g i with
    | none =>
      rw [hg] at h1
      exact .next h1 (ih (i + 1) (by omega))
    | some y =>
      rw [hg] at h1
      exact .out h1
theorem loop_scan {β : Type} {f : Int → Option (Int ⊕ (Unit ⊕ β))} {n : Nat} (g : Nat → Option β) (hs : ∀ i : Nat, i < n → f (i : Int) = some (match g i with | none => .inl ((i + 1 : Nat) : Int) | some y => .inr (.inr y)))
    (hl : f (n : Int) = some (.inr (.inl ()))) : loopM f 0 = some (match scan g 0 n with | none => .inl () | some y => .inr y) :=
  loopM_of (loop_scan_from hs hl n 0 (by omega))
theorem scan_congr {β : Type} {g g' : Nat → Option β} : ∀ (k i : Nat), (∀ j, i ≤ j → j < i + k → g j = g' j) → scan g i k = scan g' i k
  | 0, _, _ => rfl
  | k + 1, i, h => by
    unfold scan
    rw [h i (Nat.le_refl _) (by omega), scan_congr k (i + 1) fun j h1 h2 => h j (by omega) (by omega)]
end Nv
