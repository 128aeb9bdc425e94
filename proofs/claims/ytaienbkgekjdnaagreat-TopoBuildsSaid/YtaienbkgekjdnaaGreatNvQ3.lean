/- The program's check of a network is the reference's. -/
import Derived.Test.YtaienbkgekjdnaaGreatNvQ1
import Derived.Test.YtaienbkgekjdnaaGreatNvQ2
namespace Nv
open Go
noncomputable def Zmb (q r : Zf) : Bool := G9 (fun j => ((r.Zc.getD j default).ZJ != 0) && decide (S.Ja q (r.Zc.getD j default).Zu ≥ 0)) r.Zc.length
theorem ZhV (q r : Zf) : S.Jl q r = Zmb q r := by
  have h := ZnX (fun j => S.Qa (r.Zc.getD j default) q) r.Zc.length
  refine Eq.trans ?_ (h.trans (Zhf fun j _ => ?_))
  · rfl
  · unfold S.Qa
    simp only [ZS]
    rw [ZiK]
    cases (r.Zc.getD j default).ZJ != 0 <;> rfl
theorem ZlB (a : ZY) (i : Nat) : Xp (S.Va a i) (.inl ()) 0 i = bif G9 (fun k => YJ (a.Zd.getD k default).ZX (a.Zd.getD i default).ZX || Zmb (a.Zd.getD k default) (a.Zd.getD i default)) i then .inr 4 else .inl () := by
  rw [← Ko (β := Unit ⊕ Int)]
  refine YD fun k hk => ?_
  unfold S.Va
  simp only [ZS, GB _ hk, ZhV]
  cases YJ (a.Zd.getD k default).ZX (a.Zd.getD i default).ZX <;> rfl
theorem Zpv (a : ZY) (hs : ∀ i, i < a.Zd.length → ZlA (a.Zd.getD i default)) : S.QS a = S.Wp a := by
  unfold S.QS S.Wp
  rw [YD (g' := S.VL a)]
  intro i hi
  have s := hs i hi
  unfold S.VI S.VL
  rw [ZlB, Zii _ ⟨by have := s.nb; omega, by have := s.nw; omega, by have := s.ag; omega, by have := s.cd; omega, by have := s.pvr; omega⟩]
  have h2 : Xp (S.Wd a i) (.inl ()) 0 i = _ := Ko (β := Unit ⊕ Int) (fun k => YJ (a.Zd.getD k default).ZX (a.Zd.getD i default).ZX) (.inr 4) (.inl ()) i
  have h4 (j : Nat) : Xp (S.VJ a i j) (.inl ()) 0 i = bif G9 (fun k => ((((a.Zd.getD i default).Zc.getD j default).ZJ != 0) && decide (S.Ja (a.Zd.getD k default) ((a.Zd.getD i default).Zc.getD j default).Zu ≥ 0))) i then .inr 4 else .inl () := by
    rw [← Ko (β := Unit ⊕ Int)]
    refine YD fun k hk => ?_
    unfold S.VJ
    simp only [ZS]
    cases ((a.Zd.getD i default).Zc.getD j default).ZJ != 0 <;> rfl
  have h3 : Xp (S.VK a i) (.inl ()) 0 ((a.Zd.getD i default).Zc).length = bif G9 (fun j => G9 (fun k => ((((a.Zd.getD i default).Zc.getD j default).ZJ != 0) && decide (S.Ja (a.Zd.getD k default) ((a.Zd.getD i default).Zc.getD j default).Zu ≥ 0))) i) ((a.Zd.getD i default).Zc).length then .inr 4 else .inl () := by
    rw [← Ko (β := Unit ⊕ Int)]
    refine YD fun j hj => ?_
    unfold S.VK
    rw [h4]
    simp only [ZS]
    cases G9 _ i <;> rfl
  rw [h2, h3]
  have he : G9 (fun k => YJ (a.Zd.getD k default).ZX (a.Zd.getD i default).ZX || Zmb (a.Zd.getD k default) (a.Zd.getD i default)) i =
      (G9 (fun k => YJ (a.Zd.getD k default).ZX (a.Zd.getD i default).ZX) i || G9 (fun j => G9 (fun k => ((((a.Zd.getD i default).Zc.getD j default).ZJ != 0) && decide (S.Ja (a.Zd.getD k default) ((a.Zd.getD i default).Zc.getD j default).Zu ≥ 0))) i) ((a.Zd.getD i default).Zc).length) := by
    rw [Bool.eq_iff_iff, Bool.or_eq_true, Wu, Wu, Wu]
    constructor
    · rintro ⟨k, hk, h⟩
      rcases Bool.or_eq_true _ _ ▸ h with h | h
      · exact .inl ⟨k, hk, h⟩
      · obtain ⟨j, hj, h⟩ := Wu.1 h
        exact .inr ⟨j, hj, Wu.2 ⟨k, hk, h⟩⟩
    · rintro (⟨k, hk, h⟩ | ⟨j, hj, h⟩)
      · exact ⟨k, hk, by rw [h]; rfl⟩
      · obtain ⟨k, hk, h⟩ := Wu.1 h
        refine ⟨k, hk, ?_⟩
        have : Zmb (a.Zd.getD k default) (a.Zd.getD i default) = true := Wu.2 ⟨j, hj, h⟩
        rw [this, Bool.or_true]
  rw [he]
  simp only [ZS]
  cases S.Q3 (a.Zd.getD i default) != 0 with
  | true => rfl
  | false =>
    cases G9 (fun k => YJ (a.Zd.getD k default).ZX (a.Zd.getD i default).ZX) i with
    | true => rfl
    | false =>
      generalize G9 _ ((a.Zd.getD i default).Zc).length = b
      cases b <;> rfl
end Nv
