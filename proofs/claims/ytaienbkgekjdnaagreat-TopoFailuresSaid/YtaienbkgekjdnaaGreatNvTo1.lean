/- Broadcast domains as groups of ends with one key: what a list of domains must be. No condition. -/
import Derived.Test.YtaienbkgekjdnaaGreatNvD1
import Derived.Test.YtaienbkgekjdnaaGreatNvLibB
namespace Nv
open Go
theorem R1 {σ τ β : Type} {f : τ → Option (τ ⊕ β)} (mk : Nat → σ → τ) (n : Nat) (J : Nat → σ → Prop) (R : β → Prop)
    (step : ∀ i s, i < n → J i s → (∃ s', f (mk i s) = some (.inl (mk (i + 1) s')) ∧ J (i + 1) s') ∨ ∃ y, f (mk i s) = some (.inr y) ∧ R y)
    (out : ∀ s, J n s → ∃ y, f (mk n s) = some (.inr y) ∧ R y) : ∀ (k i : Nat) (s : σ), i + k = n → J i s → ∃ y, loopM f (mk i s) = some y ∧ R y
  | 0, i, s, h, hJ => by
    obtain rfl : i = n := by omega
    obtain ⟨y, h1, h2⟩ := out s hJ
    exact ⟨y, Vh (.out h1), h2⟩
  | k + 1, i, s, h, hJ => by
    rcases step i s (by omega) hJ with ⟨s', h1, h2⟩ | ⟨y, h1, h2⟩
    · obtain ⟨y, h3, h4⟩ := R1 mk n J R step out k (i + 1) s' (by omega) h2
      exact ⟨y, Vh (.next h1 (Ju h3)), h4⟩
    · exact ⟨y, Vh (.out h1), h2⟩
abbrev DKey := Int × Int × Int
abbrev DEnd := Int × Int
abbrev DItem := DKey × DEnd
def dkey (d : Zp) : DKey := (d.Z5.XO, d.Z5.X2, d.Xj)
def dend (e : Je) : DEnd := (e.WM, e.Ws)
def dends (d : Zp) : List DEnd := d.XA.map dend
def sel (its : List DItem) (k : DKey) : List DEnd := (its.filter fun x => decide (x.1 = k)).map (·.2)
structure Grp (its : List DItem) (D : List Zp) : Prop where
  nd : (D.map dkey).Nodup
  ends : ∀ d ∈ D, dends d = sel its (dkey d)
  ne : ∀ d ∈ D, dends d ≠ []
  cov : ∀ x ∈ its, ∃ d ∈ D, dkey d = x.1
  len : D.length ≤ its.length
end Nv
