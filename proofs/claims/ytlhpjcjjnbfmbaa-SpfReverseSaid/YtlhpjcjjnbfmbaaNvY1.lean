/- Walks in graphs, and lists of least costs. No condition. -/
import Derived.Test.YtlhpjcjjnbfmbaaNvD1
set_option maxRecDepth 100000
namespace Nv
open Go
structure Us (n : Nat) (e : TEdge) : Prop where
  f0 : 0 ≤ e.fFrom
  f1 : e.fFrom < n
  t0 : 0 ≤ e.fTo
  t1 : e.fTo < n
  c0 : 1 ≤ e.fCost
  c1 : e.fCost ≤ 16777215
inductive Walk (n : Nat) (es : List TEdge) (x : Int) : Int → Int → Prop
  | nil : Walk n es x x 0
  | snoc {y c : Int} (h : Walk n es x y c) (e : TEdge) (he : e ∈ es) (hu : Us n e) (hf : e.fFrom = y) : Walk n es x e.fTo (c + e.fCost)
theorem Walk.append {n : Nat} {es : List TEdge} {x y z c d : Int} (h : Walk n es x y c) (k : Walk n es y z d) : Walk n es x z (c + d) := by
  induction k with
  | nil => simpa using h
  | snoc k e he hu hf ih => rw [← Int.add_assoc]; exact .snoc ih e he hu hf
theorem Walk.one {n : Nat} {es : List TEdge} {e : TEdge} (he : e ∈ es) (hu : Us n e) : Walk n es e.fFrom e.fTo e.fCost := by
  have := Walk.snoc (Walk.nil (n := n) (es := es) (x := e.fFrom)) e he hu rfl
  simpa using this
theorem Walk.mono {n : Nat} {es es' : List TEdge} {x y c : Int} (h : Walk n es x y c) (hs : ∀ e ∈ es, e ∈ es') : Walk n es' x y c := by
  induction h with
  | nil => exact .nil
  | snoc h e he hu hf ih => exact .snoc ih e (hs e he) hu hf
theorem Walk.first {n : Nat} {es : List TEdge} {x y c : Int} (h : Walk n es x y c) : (y = x ∧ c = 0) ∨ ∃ e ∈ es, Us n e ∧ e.fFrom = x ∧ ∃ d, Walk n es e.fTo y d ∧ c = e.fCost + d := by
  induction h with
  | nil => exact .inl ⟨rfl, rfl⟩
  | snoc h e he hu hf ih =>
    right
    rcases ih with ⟨rfl, rfl⟩ | ⟨e0, h1, h2, h3, d, h4, h5⟩
    · exact ⟨e, he, hu, hf, 0, .nil, by omega⟩
    · exact ⟨e0, h1, h2, h3, d + e.fCost, .snoc h4 e he hu hf, by omega⟩
theorem Walk.inside {n : Nat} {es : List TEdge} {x y c : Int} (h : Walk n es x y c) (hy : 0 ≤ y ∧ y < n) : 0 ≤ x ∧ x < n := by
  induction h with
  | nil => exact hy
  | snoc h e he hu hf ih => exact ih ⟨by rw [← hf]; exact hu.f0, by rw [← hf]; exact hu.f1⟩
structure Dist (n : Nat) (es : List TEdge) (x : Int) (d : List Int) : Prop where
  len : d.length = n
  ach : ∀ i, i < n → 0 ≤ d.getD i default → Walk n es x i (d.getD i default)
  low : ∀ i, i < n → ∀ c, Walk n es x i c → 0 ≤ d.getD i default ∧ d.getD i default ≤ c
  neg : ∀ i, i < n → d.getD i default < 0 → d.getD i default = -1
theorem Dist.val {n : Nat} {es : List TEdge} {x : Int} {d d' : List Int} (h : Dist n es x d) (k : Dist n es x d') {i : Nat} (hi : i < n) : d.getD i default = d'.getD i default := by
  rcases Int.lt_or_le (d.getD i default) 0 with h1 | h1
  · rcases Int.lt_or_le (d'.getD i default) 0 with h2 | h2
    · rw [h.neg i hi h1, k.neg i hi h2]
    · have := (h.low i hi _ (k.ach i hi h2)).1; omega
  · have h2 := k.low i hi _ (h.ach i hi h1)
    have h3 := h.low i hi _ (k.ach i hi h2.1)
    omega
theorem Dist.of {n : Nat} {es : List TEdge} {x : Nat} {d : List Int} (hx : x < n) (len : d.length = n) (h0 : d.getD x default = 0) (ach : ∀ i, i < n → 0 ≤ d.getD i default → Walk n es x i (d.getD i default)) (neg : ∀ i, i < n → d.getD i default < 0 → d.getD i default = -1)
    (edge : ∀ e ∈ es, Us n e → 0 ≤ d.getD e.fFrom.toNat default → 0 ≤ d.getD e.fTo.toNat default ∧ d.getD e.fTo.toNat default ≤ d.getD e.fFrom.toNat default + e.fCost) : Dist n es x d := by
  refine ⟨len, ach, fun i hi c hw => ?_, neg⟩
  have key : ∀ y c, Walk n es (x : Int) y c → 0 ≤ d.getD y.toNat default ∧ d.getD y.toNat default ≤ c := by
    intro y c hw
    induction hw with
    | nil => rw [Int.toNat_natCast, h0]; omega
    | snoc h e he hu hf ih =>
      rw [← hf] at ih
      have := edge e he hu ih.1
      omega
  have := key i c hw
  rwa [Int.toNat_natCast] at this
theorem Dist.none {n : Nat} {es : List TEdge} {x : Int} {d : List Int} (hx : ¬ (0 ≤ x ∧ x < n)) (len : d.length = n) (h : ∀ i, i < n → d.getD i default = -1) : Dist n es x d :=
  ⟨len, fun i hi h1 => by rw [h i hi] at h1; omega, fun i hi c hw => absurd (hw.inside ⟨by omega, by omega⟩) hx, fun i hi _ => h i hi⟩
theorem Dist.self {n : Nat} {es : List TEdge} {x : Nat} {d : List Int} (h : Dist n es x d) (hx : x < n) : d.getD x default = 0 := by
  have := h.low x hx 0 .nil
  omega
theorem Dist.edge {n : Nat} {es : List TEdge} {x : Int} {d : List Int} (h : Dist n es x d) {e : TEdge} (he : e ∈ es) (hu : Us n e) (h0 : 0 ≤ d.getD e.fFrom.toNat default) : 0 ≤ d.getD e.fTo.toNat default ∧ d.getD e.fTo.toNat default ≤ d.getD e.fFrom.toNat default + e.fCost := by
  have u := hu
  have h1 := h.ach e.fFrom.toNat (by have := hu.f1; have := hu.f0; omega) h0
  rw [Int.toNat_of_nonneg hu.f0] at h1
  have h2 := Walk.snoc h1 e he hu rfl
  have h3 := h.low e.fTo.toNat (by have := hu.t1; have := hu.t0; omega) (d.getD e.fFrom.toNat default + e.fCost)
  rw [Int.toNat_of_nonneg hu.t0] at h3
  exact h3 h2
end Nv
