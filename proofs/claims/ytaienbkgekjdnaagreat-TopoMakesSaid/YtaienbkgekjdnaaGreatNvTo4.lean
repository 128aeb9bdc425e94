/- What the reference's check of a network tells where it finds nothing. No condition. -/
import Derived.Test.YtaienbkgekjdnaaGreatNvTo1
import Derived.Test.YtaienbkgekjdnaaGreatNvT1
import Derived.Test.YtaienbkgekjdnaaGreatNvLibB
import Derived.Test.YtaienbkgekjdnaaGreatNvQ2
set_option maxRecDepth 100000
namespace Nv
open Go
theorem ZhF {β : Type} {g : Nat → Option β} {e : β} {n : Nat} (hb : ∀ i,i < n → g i = none) : runN g e 0 n = e := by
 rcases G7 g e n 0 with ⟨k,h1,h2,h3,h4⟩ | ⟨h1,h2⟩
 ·rw [hb k (by omega)] at h3; cases h3
 ·exact h1
theorem rnet (a n : Int) : S.Jb a n = netP a n := by
 unfold S.Jb netP
 have e : (if 0 > (if 32 < n then 32 else n) then 0 else (if 32 < n then 32 else n)) = cl32 n := by unfold cl32; split <;> split <;> (try split) <;> omega
 simp only [letS,e]
 rw [show S.VI (cl32 n) = mk32 (cl32 n) from rfl,ZhZ]
theorem ZnV (a n : Int) : M.Jb a n = some (netP a n) := by rw [RF,rnet]
theorem ZmD {a : ZG} (h : S.VD a = true) : a.Ze.length ≤ 9 ∧ ∀ r,nif a r ≤ 12 := by
 unfold S.VD at h
 cases hl : decide ((a.Ze.length : Int) > 9) with
 | true => rw [hl] at h; cases h
 | false =>
  rw [hl] at h
  simp only [cond_false,letS] at h
  refine ⟨by have := of_decide_eq_false hl; omega,fun r => ?_⟩
  rcases Nat.lt_or_ge r a.Ze.length with hr | hr
  ·rcases G7 (S.Y4 a) (.inl ()) a.Ze.length 0 with ⟨j,h1,h2,h3,h4⟩ | ⟨h1,h2⟩
   ·revert h3 h
    generalize runN (S.Y4 a) (.inl ()) 0 a.Ze.length = z
    intro h h3
    unfold S.Y4 at h3
    simp only [letS] at h3
    cases hs : S.VX (a.Ze.getD j default) with
    | true => rw [hs] at h3; cases h3
    | false =>
     rw [hs] at h3
     simp only [Bool.not_false,cond_true,Option.some.injEq] at h3
     rw [← h3] at h
     cases h
   ·have := h2 r (Nat.zero_le _) (by omega)
    unfold S.Y4 at this
    simp only [letS] at this
    cases hs : S.VX (a.Ze.getD r default) with
    | false => rw [hs] at this; cases this
    | true => exact (Zjm hs).ifs
  ·unfold nif
   rw [List.getD_eq_getElem?_getD,List.getElem?_eq_none hr]
   exact Nat.zero_le _
end Nv
