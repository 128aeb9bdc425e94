/- Total forms of the mirrors: how the proofs go on from step to step. -/
import Derived.Test.YtmangnohekiphaaNvLoop
namespace Nv
open Go Go.RowKit

def letS {α β : Type} (v : α) (s : α → β) : β := s v
/-- A counted loop with no state but the counter: from i, k rounds at most. -/
def runN {β : Type} (g : Nat → Option β) (e : β) : Nat → Nat → β
  | _, 0 => e
  | i, k + 1 => match g i with
    | some y => y
    | none => runN g e (i + 1) k
def rdN {β : Type} (o : Option β) (i : Nat) : Int ⊕ β :=
  match o with
  | none => .inl ((i + 1 : Nat) : Int)
  | some y => .inr y
theorem loop_runN {β : Type} {f : Int → Option (Int ⊕ β)} {g : Nat → Option β} {e : β} {n : Nat} (hs : ∀ i : Nat, i < n → f (i : Int) = some (rdN (g i) i)) (hl : ∀ m : Nat, n ≤ m → f (m : Int) = some (.inr e)) (i0 : Nat) :
    loopM f (i0 : Int) = some (runN g e i0 (n - i0)) := by
  have key : ∀ (k i : Nat), i + k = n → Iter f (i : Int) (runN g e i k) := by
    intro k
    induction k with
    | zero => intro i h; exact .out (hl i (by omega))
    | succ k ih =>
      intro i h
      have h1 := hs i (by omega)
      unfold runN
      cases hg : g i with
      | none => rw [hg] at h1; exact .next h1 (ih (i + 1) (by omega))
      | some y => rw [hg] at h1; exact .out h1
  rcases Nat.lt_or_ge n i0 with h | h
  · rw [show n - i0 = 0 by omega]
    exact loopM_of (.out (hl i0 (by omega)))
  · exact loopM_of (key (n - i0) i0 (by omega))

/-- A counted loop with a state. -/
def runT {σ β : Type} (g : Nat → σ → σ ⊕ β) (e : σ → β) : Nat → Nat → σ → β
  | _, 0, s => e s
  | i, k + 1, s => match g i s with
    | .inl s' => runT g e (i + 1) k s'
    | .inr y => y
def rdT {σ τ β : Type} (mk : Nat → σ → τ) (o : σ ⊕ β) (i : Nat) : τ ⊕ β :=
  match o with
  | .inl s => .inl (mk (i + 1) s)
  | .inr y => .inr y
theorem loop_runTJ {σ τ β : Type} {f : τ → Option (τ ⊕ β)} {g : Nat → σ → σ ⊕ β} {e : σ → β} {mk : Nat → σ → τ} {n : Nat} (J : Nat → σ → Prop)
    (hs : ∀ (i : Nat) (s : σ), i < n → J i s → f (mk i s) = some (rdT mk (g i s) i) ∧ ∀ s', g i s = .inl s' → J (i + 1) s') (hl : ∀ (m : Nat) (s : σ), n ≤ m → J m s → f (mk m s) = some (.inr (e s))) (i0 : Nat) (s0 : σ) (h0 : J i0 s0) :
    loopM f (mk i0 s0) = some (runT g e i0 (n - i0) s0) := by
  have key : ∀ (k i : Nat) (s : σ), i + k = n → J i s → Iter f (mk i s) (runT g e i k s) := by
    intro k
    induction k with
    | zero => intro i s h hJ; exact .out (hl i s (by omega) hJ)
    | succ k ih =>
      intro i s h hJ
      obtain ⟨h1, h2⟩ := hs i s (by omega) hJ
      unfold runT
      cases hg : g i s with
      | inl s' => rw [hg] at h1; exact .next h1 (ih (i + 1) s' (by omega) (h2 s' hg))
      | inr y => rw [hg] at h1; exact .out h1
  rcases Nat.lt_or_ge n i0 with h | h
  · rw [show n - i0 = 0 by omega]
    exact loopM_of (.out (hl i0 s0 (by omega) h0))
  · exact loopM_of (key (n - i0) i0 s0 (by omega) h0)
theorem loop_runT {σ τ β : Type} {f : τ → Option (τ ⊕ β)} {g : Nat → σ → σ ⊕ β} {e : σ → β} {mk : Nat → σ → τ} {n : Nat}
    (hs : ∀ (i : Nat) (s : σ), i < n → f (mk i s) = some (rdT mk (g i s) i)) (hl : ∀ (m : Nat) (s : σ), n ≤ m → f (mk m s) = some (.inr (e s))) (i0 : Nat) (s0 : σ) :
    loopM f (mk i0 s0) = some (runT g e i0 (n - i0) s0) :=
  loop_runTJ (fun _ _ => True) (fun i s hi _ => ⟨hs i s hi, fun _ _ => trivial⟩) (fun m s hm _ => hl m s hm) i0 s0 trivial

section
variable {α β γ ι : Type}
theorem dt {p : Prop} [Decidable p] (h : p) : decide p = true := decide_eq_true h
theorem cond_ind {p : α → Prop} {b : Bool} {x y : α} (hx : p x) (hy : p y) : p (bif b then x else y) := by cases b <;> assumption
theorem s_gd {l : List Bool} {e : Option α} {r : Option α} (h : l.all id = true) (k : e = r) : gd l e = r := by unfold gd; rw [h]; exact k
theorem all_c {b : Bool} {l : List Bool} (h : b = true) (k : l.all id = true) : (b :: l).all id = true := by simp only [List.all_cons, h, k]; rfl
theorem all_n : ([] : List Bool).all id = true := rfl
theorem s_guard {g b : Bool} (h : g = true → b = true) : guardB g b = true := by cases g <;> simp_all [guardB]
theorem s_gc [Inhabited α] {g : Bool} {x : Option α} {v : α} (h : g = true → x = some v) : gc g x = some (bif g then v else default) := by
  cases g
  · rfl
  · exact h rfl
theorem s_bind {x : Option α} {v : α} {f : α → Option β} {s : α → β} (h : x = some v) (k : ∀ r, r = v → f r = some (s r)) : x.bind f = some (letS v s) := by
  rw [h]; exact k v rfl
theorem s_bindN {x : Option α} {v : α} {f : α → Option (Int ⊕ β)} {s : α → Option β} {i : Nat} (h : x = some v) (k : ∀ r, r = v → f r = some (rdN (s r) i)) : x.bind f = some (rdN (letS v s) i) := by
  rw [h]; exact k v rfl
theorem s_bindT {σ τ : Type} {mk : Nat → σ → τ} {x : Option α} {v : α} {f : α → Option (τ ⊕ β)} {s : α → σ ⊕ β} {i : Nat} (h : x = some v) (k : ∀ r, r = v → f r = some (rdT mk (s r) i)) : x.bind f = some (rdT mk (letS v s) i) := by
  rw [h]; exact k v rfl
theorem s_if {c : Bool} {x y : Option α} {s t : α} (h : c = true → x = some s) (k : c = false → y = some t) : (bif c then x else y) = some (bif c then s else t) := by
  cases c
  · exact k rfl
  · exact h rfl
theorem s_ifN {c : Bool} {x y : Option (Int ⊕ β)} {s t : Option β} {i : Nat} (h : c = true → x = some (rdN s i)) (k : c = false → y = some (rdN t i)) : (bif c then x else y) = some (rdN (bif c then s else t) i) := by
  cases c
  · exact k rfl
  · exact h rfl
theorem s_ifT {σ τ : Type} {mk : Nat → σ → τ} {c : Bool} {x y : Option (τ ⊕ β)} {s t : σ ⊕ β} {i : Nat} (h : c = true → x = some (rdT mk s i)) (k : c = false → y = some (rdT mk t i)) : (bif c then x else y) = some (rdT mk (bif c then s else t) i) := by
  cases c
  · exact k rfl
  · exact h rfl
theorem s_then {c : Bool} {x y r : α} (h : c = true) (k : x = r) : (bif c then x else y) = r := by subst h; exact k
theorem s_else {c : Bool} {x y r : α} (h : c = false) (k : y = r) : (bif c then x else y) = r := by subst h; exact k
theorem s_elim {f : ι → Option α} {g : γ → Option α} {s : ι → α} {t : γ → α} {y : ι ⊕ γ} (h : ∀ a, y = .inl a → f a = some (s a)) (k : ∀ b, y = .inr b → g b = some (t b)) : Sum.elim f g y = some (Sum.elim s t y) := by
  cases y
  · exact h _ rfl
  · exact k _ rfl
theorem s_elimN {f : ι → Option (Int ⊕ β)} {g : γ → Option (Int ⊕ β)} {s : ι → Option β} {t : γ → Option β} {y : ι ⊕ γ} {i : Nat} (h : ∀ a, y = .inl a → f a = some (rdN (s a) i)) (k : ∀ b, y = .inr b → g b = some (rdN (t b) i)) : Sum.elim f g y = some (rdN (Sum.elim s t y) i) := by
  cases y
  · exact h _ rfl
  · exact k _ rfl
theorem s_elimT {σ τ : Type} {mk : Nat → σ → τ} {f : ι → Option (τ ⊕ β)} {g : γ → Option (τ ⊕ β)} {s : ι → σ ⊕ β} {t : γ → σ ⊕ β} {y : ι ⊕ γ} {i : Nat} (h : ∀ a, y = .inl a → f a = some (rdT mk (s a) i)) (k : ∀ b, y = .inr b → g b = some (rdT mk (t b) i)) : Sum.elim f g y = some (rdT mk (Sum.elim s t y) i) := by
  cases y
  · exact h _ rfl
  · exact k _ rfl
theorem up_i64 {i : Nat} (h : i < maxLen) : wr .i64 ((i : Int) + 1) = ((i + 1 : Nat) : Int) := wr_up h (Nat.le_refl _)
theorem s_up {i : Nat} (h : i < maxLen) : (some (.inl (wr .i64 ((i : Int) + 1))) : Option (Int ⊕ β)) = some (rdN none i) := by rw [up_i64 h]; rfl
theorem s_out {y : β} {i : Nat} : (some (.inr y) : Option (Int ⊕ β)) = some (rdN (some y) i) := rfl
theorem s_outT {σ τ : Type} {mk : Nat → σ → τ} {y : β} {i : Nat} : (some (.inr y) : Option (τ ⊕ β)) = some (rdT mk (.inr y) i) := rfl
end
/-! lengths -/
def LL {α : Type} (L : α → Prop) (l : List α) : Prop := l.length ≤ maxLen ∧ ∀ x ∈ l, L x
theorem LL.getD {α : Type} [Inhabited α] {L : α → Prop} {l : List α} (h : LL L l) (d : L default) (i : Nat) : L (l.getD i default) := by
  rcases Nat.lt_or_ge i l.length with h1 | h1
  · have : l.getD i default = l[i] := by simp [h1]
    rw [this]
    exact h.2 _ (List.getElem_mem h1)
  · have : l.getD i default = default := by simp [h1]
    rw [this]
    exact d
theorem LL.take {α : Type} {L : α → Prop} {l : List α} (h : LL L l) (i : Nat) : LL L (l.take i) := ⟨by rw [List.length_take]; have := h.1; omega, fun x hx => h.2 x (List.mem_of_mem_take hx)⟩
theorem LL.drop {α : Type} {L : α → Prop} {l : List α} (h : LL L l) (i : Nat) : LL L (l.drop i) := ⟨by rw [List.length_drop]; have := h.1; omega, fun x hx => h.2 x (List.mem_of_mem_drop hx)⟩
theorem len_take {α : Type} {l : List α} {n m : Nat} (h : l.length ≤ m) : (l.take n).length ≤ m := by rw [List.length_take]; omega
theorem len_drop {α : Type} {l : List α} {n m : Nat} (h : l.length ≤ m) : (l.drop n).length ≤ m := by rw [List.length_drop]; omega
/-- What a counted loop gives: the first round that leaves, or the end. -/
theorem runN_cases {β : Type} (g : Nat → Option β) (e : β) : ∀ (k i : Nat), (∃ j, i ≤ j ∧ j < i + k ∧ g j = some (runN g e i k) ∧ ∀ l, i ≤ l → l < j → g l = none) ∨ (runN g e i k = e ∧ ∀ l, i ≤ l → l < i + k → g l = none)
  | 0, i => .inr ⟨rfl, fun l h1 h2 => by omega⟩
  | k + 1, i => by
    unfold runN
    cases hg : g i with
    | some y => exact .inl ⟨i, Nat.le_refl _, by omega, hg, fun l h1 h2 => by omega⟩
    | none =>
      rcases runN_cases g e k (i + 1) with ⟨j, h1, h2, h3, h4⟩ | ⟨h1, h2⟩
      · exact .inl ⟨j, by omega, by omega, h3, fun l h5 h6 => by
          rcases Nat.lt_or_ge i l with h | h
          · exact h4 l (by omega) h6
          · obtain rfl : l = i := by omega
            exact hg⟩
      · exact .inr ⟨h1, fun l h5 h6 => by
          rcases Nat.lt_or_ge i l with h | h
          · exact h2 l (by omega) (by omega)
          · obtain rfl : l = i := by omega
            exact hg⟩
/-- An index that a search gives is below the length. -/
theorem idx_lt {g : Nat → Option (Unit ⊕ Int)} (h : ∀ i, g i = none ∨ g i = some (.inr (i : Int))) (n : Nat) : Sum.elim (fun _ => (-1 : Int)) (fun y => y) (runN g (.inl ()) 0 n) < (n : Int) := by
  rcases runN_cases g (.inl ()) n 0 with ⟨j, h1, h2, h3, h4⟩ | ⟨h1, h2⟩
  · rcases h j with h5 | h5
    · rw [h5] at h3; cases h3
    · rw [h5] at h3
      simp only [Option.some.injEq] at h3
      rw [← h3]
      show (j : Int) < n
      omega
  · rw [h1]
    show (-1 : Int) < n
    omega
theorem wr_i64 {x : Int} (h : -9223372036854775808 ≤ x ∧ x ≤ 9223372036854775807) : wr .i64 x = x := by unfold wr; exact IntWalk.i64_in _ (by omega)
theorem maxLen_eq : maxLen = 9223372036854775807 := rfl
end Nv
