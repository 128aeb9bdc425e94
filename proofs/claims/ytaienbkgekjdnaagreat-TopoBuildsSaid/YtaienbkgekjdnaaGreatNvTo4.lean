/- What the reference's check of a network tells where it finds nothing. No condition. -/
import Derived.Test.YtaienbkgekjdnaaGreatNvTo1
import Derived.Test.YtaienbkgekjdnaaGreatNvT1
import Derived.Test.YtaienbkgekjdnaaGreatNvLibB
import Derived.Test.YtaienbkgekjdnaaGreatNvQ2
set_option maxRecDepth 100000
namespace Nv
open Go
theorem ZiN {β : Type} {g : Nat → Option β} {e : β} {n : Nat} (hb : ∀ i, i < n → g i = none) : Xp g e 0 n = e := by
  rcases GY g e n 0 with ⟨k, h1, h2, h3, h4⟩ | ⟨h1, h2⟩
  · rw [hb k (by omega)] at h3; cases h3
  · exact h1
theorem ZqM (a n : Int) : S.Q7 a n = KW a n := by
  unfold S.Q7 KW
  have e : (if 0 > (if 32 < n then 32 else n) then 0 else (if 32 < n then 32 else n)) = Ka n := by unfold Ka; split <;> split <;> (try split) <;> omega
  simp only [ZS, e]
  rw [show S.VE (Ka n) = Zjd (Ka n) from rfl, Zje]
theorem Zqm (a n : Int) : M.Q7 a n = some (KW a n) := by rw [RH, ZqM]
theorem ZoF {a : ZY} (h : S.V2 a = true) : a.Zd.length ≤ 9 ∧ ∀ r, nif a r ≤ 12 := by
  unfold S.V2 at h
  cases hl : decide ((a.Zd.length : Int) > 9) with
  | true => rw [hl] at h; cases h
  | false =>
    rw [hl] at h
    simp only [cond_false, ZS] at h
    refine ⟨by have := of_decide_eq_false hl; omega, fun r => ?_⟩
    rcases Nat.lt_or_ge r a.Zd.length with hr | hr
    · rcases GY (S.Y3 a) (.inl ()) a.Zd.length 0 with ⟨j, h1, h2, h3, h4⟩ | ⟨h1, h2⟩
      · revert h3 h
        generalize Xp (S.Y3 a) (.inl ()) 0 a.Zd.length = z
        intro h h3
        unfold S.Y3 at h3
        simp only [ZS] at h3
        cases hs : S.VW (a.Zd.getD j default) with
        | true => rw [hs] at h3; cases h3
        | false =>
          rw [hs] at h3
          simp only [Bool.not_false, cond_true, Option.some.injEq] at h3
          rw [← h3] at h
          cases h
      · have := h2 r (Nat.zero_le _) (by omega)
        unfold S.Y3 at this
        simp only [ZS] at this
        cases hs : S.VW (a.Zd.getD r default) with
        | false => rw [hs] at this; cases this
        | true => exact (ZkL hs).ifs
    · unfold nif
      rw [List.getD_eq_getElem?_getD, List.getElem?_eq_none hr]
      exact Nat.zero_le _
end Nv
