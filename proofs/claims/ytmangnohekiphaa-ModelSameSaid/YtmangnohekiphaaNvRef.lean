/- Mirrors that compute: loops by a number of rounds; what they give the mirrors give. -/
import Derived.Test.YtmangnohekiphaaNvGen2
namespace Nv
open Go Go.RowKit

def loopN {α β : Type} : Nat → (α → Option (α ⊕ β)) → α → Option β
  | 0, _, _ => none
  | n + 1, f, x => match f x with
    | none => none
    | some (.inl x') => loopN n f x'
    | some (.inr y) => some y
def Ref {α : Type} (a b : Option α) : Prop := ∀ r, a = some r → b = some r
theorem ref_some {α : Type} {x : α} : Ref (some x) (some x) := fun _ h => h
theorem ref_none {α : Type} {b : Option α} : Ref none b := fun _ h => by cases h
theorem ref_bind {α β : Type} {a a' : Option α} {f f' : α → Option β} (h : Ref a a') (k : ∀ x, Ref (f x) (f' x)) : Ref (a.bind f) (a'.bind f') := by
  intro r hr
  obtain ⟨x, h1, h2⟩ := Option.bind_eq_some_iff.1 hr
  rw [h x h1]
  exact k x r h2
theorem ref_gd {α : Type} {l : List Bool} {a a' : Option α} (h : Ref a a') : Ref (gd l a) (gd l a') := by
  intro r hr
  obtain ⟨h1, h2⟩ := gd_some hr
  unfold gd
  have : l.all id = true := List.all_eq_true.2 fun b hb => by simpa using h1 b hb
  rw [this]
  exact h r h2
theorem ref_gc {α : Type} [Inhabited α] {g : Bool} {a a' : Option α} (h : Ref a a') : Ref (gc g a) (gc g a') := by
  cases g
  · exact ref_some
  · exact h
theorem ref_cond {α : Type} {b : Bool} {x x' y y' : Option α} (h : Ref x x') (k : Ref y y') : Ref (bif b then x else y) (bif b then x' else y') := by
  cases b
  · exact k
  · exact h
theorem ref_elim {α β γ : Type} {f f' : α → Option γ} {g g' : β → Option γ} {s : α ⊕ β} (h : ∀ x, Ref (f x) (f' x)) (k : ∀ y, Ref (g y) (g' y)) : Ref (Sum.elim f g s) (Sum.elim f' g' s) := by
  cases s
  · exact h _
  · exact k _
theorem ref_loop {α β : Type} {f f' : α → Option (α ⊕ β)} (h : ∀ x, Ref (f x) (f' x)) {n : Nat} {x : α} : Ref (loopN n f x) (loopM f' x) := by
  intro y hy
  refine loopM_of ?_
  induction n generalizing x with
  | zero => cases hy
  | succ n ih =>
    unfold loopN at hy
    cases hf : f x with
    | none => rw [hf] at hy; cases hy
    | some r =>
      rw [hf] at hy
      cases r with
      | inl x' => exact .next (h x _ hf) (ih hy)
      | inr z =>
        simp only [Option.some.injEq] at hy
        subst hy
        exact .out (h x _ hf)
theorem ref_rfl {α : Type} {a : Option α} : Ref a a := fun _ h => h
theorem ref_loopM {α β : Type} {f f' : α → Option (α ⊕ β)} (h : ∀ x, Ref (f x) (f' x)) {x : α} : Ref (loopM f x) (loopM f' x) := by
  intro y hy
  have hi := loopM_iter hy
  refine loopM_of ?_
  clear hy
  induction hi with
  | out e => exact .out (h _ _ e)
  | next e _ ih => exact .next (h _ _ e) ih
/-- With recursion: what some number of steps gives is what the mirror gives. -/
theorem recM_of {α β : Type} {f : Nat → α → Option β} (hm : ∀ n x, Ref (f n x) (f (n + 1) x)) {n : Nat} {x : α} {y : β} (h : f n x = some y) : recM f x = some y := by
  have up : ∀ (k n : Nat) (y : β), f n x = some y → f (n + k) x = some y := fun k => by
    induction k with
    | zero => exact fun n y h => h
    | succ k ih => exact fun n y h => hm _ _ _ (ih n y h)
  unfold recM
  have hx : ∃ n y, f n x = some y := ⟨n, y, h⟩
  rw [dif_pos hx]
  obtain ⟨y', hy'⟩ := hx.choose_spec
  have h1 := up n _ _ hy'
  have h2 := up hx.choose _ _ h
  rw [Nat.add_comm] at h2
  rw [h1] at h2
  rw [hy', h2]
end Nv
