/- The program's check of a network is the reference's. -/
import Derived.Test.YtaienbkgekjdnaaGreatNvQ1
import Derived.Test.YtaienbkgekjdnaaGreatNvQ2
namespace Nv
open Go
noncomputable def share (q r : Zf) : Bool := anyN (fun j => ((r.Zc.getD j default).ZJ != 0) && decide (S.Q2 q (r.Zc.getD j default).Zu ≥ 0)) r.Zc.length
theorem ZfW (q r : Zf) : S.Jc q r = share q r := by
  have h := ZkN (fun j => S.Y3 (r.Zc.getD j default) q) r.Zc.length
  refine Eq.trans ?_ (h.trans (Zfm fun j _ => ?_))
  · rfl
  · unfold S.Y3
    simp only [letS]
    rw [Zgy]
    cases (r.Zc.getD j default).ZJ != 0 <;> rfl
theorem ZiP (a : ZX) (i : Nat) : runN (S.JY a i) (.inl ()) 0 i = bif anyN (fun k => strEq (a.Zd.getD k default).ZW (a.Zd.getD i default).ZW || share (a.Zd.getD k default) (a.Zd.getD i default)) i then .inr 4 else .inl () := by
  rw [← GI (β := Unit ⊕ Int)]
  refine Yy fun k hk => ?_
  unfold S.JY
  simp only [letS, U4 _ hk, ZfW]
  cases strEq (a.Zd.getD k default).ZW (a.Zd.getD i default).ZW <;> rfl
theorem Zl5 (a : ZX) (hs : ∀ i, i < a.Zd.length → SmallR (a.Zd.getD i default)) : S.QJ a = S.V9 a := by
  unfold S.QJ S.V9
  rw [Yy (g' := S.Vx a)]
  intro i hi
  have s := hs i hi
  unfold S.Vu S.Vx
  rw [ZiP, Zgd _ ⟨by have := s.nb; omega, by have := s.nw; omega, by have := s.ag; omega, by have := s.cd; omega, by have := s.pvr; omega⟩]
  have h2 : runN (S.VW a i) (.inl ()) 0 i = _ := GI (β := Unit ⊕ Int) (fun k => strEq (a.Zd.getD k default).ZW (a.Zd.getD i default).ZW) (.inr 4) (.inl ()) i
  have h4 (j : Nat) : runN (S.Vv a i j) (.inl ()) 0 i = bif anyN (fun k => ((((a.Zd.getD i default).Zc.getD j default).ZJ != 0) && decide (S.Q2 (a.Zd.getD k default) ((a.Zd.getD i default).Zc.getD j default).Zu ≥ 0))) i then .inr 4 else .inl () := by
    rw [← GI (β := Unit ⊕ Int)]
    refine Yy fun k hk => ?_
    unfold S.Vv
    simp only [letS]
    cases ((a.Zd.getD i default).Zc.getD j default).ZJ != 0 <;> rfl
  have h3 : runN (S.Vw a i) (.inl ()) 0 ((a.Zd.getD i default).Zc).length = bif anyN (fun j => anyN (fun k => ((((a.Zd.getD i default).Zc.getD j default).ZJ != 0) && decide (S.Q2 (a.Zd.getD k default) ((a.Zd.getD i default).Zc.getD j default).Zu ≥ 0))) i) ((a.Zd.getD i default).Zc).length then .inr 4 else .inl () := by
    rw [← GI (β := Unit ⊕ Int)]
    refine Yy fun j hj => ?_
    unfold S.Vw
    rw [h4]
    simp only [letS]
    cases anyN _ i <;> rfl
  rw [h2, h3]
  have he : anyN (fun k => strEq (a.Zd.getD k default).ZW (a.Zd.getD i default).ZW || share (a.Zd.getD k default) (a.Zd.getD i default)) i =
      (anyN (fun k => strEq (a.Zd.getD k default).ZW (a.Zd.getD i default).ZW) i || anyN (fun j => anyN (fun k => ((((a.Zd.getD i default).Zc.getD j default).ZJ != 0) && decide (S.Q2 (a.Zd.getD k default) ((a.Zd.getD i default).Zc.getD j default).Zu ≥ 0))) i) ((a.Zd.getD i default).Zc).length) := by
    rw [Bool.eq_iff_iff, Bool.or_eq_true, Wd, Wd, Wd]
    constructor
    · rintro ⟨k, hk, h⟩
      rcases Bool.or_eq_true _ _ ▸ h with h | h
      · exact .inl ⟨k, hk, h⟩
      · obtain ⟨j, hj, h⟩ := Wd.1 h
        exact .inr ⟨j, hj, Wd.2 ⟨k, hk, h⟩⟩
    · rintro (⟨k, hk, h⟩ | ⟨j, hj, h⟩)
      · exact ⟨k, hk, by rw [h]; rfl⟩
      · obtain ⟨k, hk, h⟩ := Wd.1 h
        refine ⟨k, hk, ?_⟩
        have : share (a.Zd.getD k default) (a.Zd.getD i default) = true := Wd.2 ⟨j, hj, h⟩
        rw [this, Bool.or_true]
  rw [he]
  simp only [letS]
  cases S.QV (a.Zd.getD i default) != 0 with
  | true => rfl
  | false =>
    cases anyN (fun k => strEq (a.Zd.getD k default).ZW (a.Zd.getD i default).ZW) i with
    | true => rfl
    | false =>
      generalize anyN _ ((a.Zd.getD i default).Zc).length = b
      cases b <;> rfl
end Nv
