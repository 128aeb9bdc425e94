/- The program's check of a network is the reference's. -/
import Derived.Test.YtaienbkgekjdnaaGreatNvQ1
import Derived.Test.YtaienbkgekjdnaaGreatNvQ2
namespace Nv
open Go
noncomputable def share (q r : Zf) : Bool := anyN (fun j => ((r.Zc.getD j default).ZK != 0) && decide (S.Je q (r.Zc.getD j default).Zy ≥ 0)) r.Zc.length
theorem Zg0 (q r : Zf) : S.Jo q r = share q r := by
 have h := ZlZ (fun j => S.Qb (r.Zc.getD j default) q) r.Zc.length
 refine Eq.trans ?_ (h.trans (Zgq fun j _ => ?_))
 ·rfl
 ·unfold S.Qb
  simp only [letS]
  rw [ZhC]
  cases (r.Zc.getD j default).ZK != 0 <;> rfl
theorem ZjX (a : ZG) (i : Nat) : runN (S.Vh a i) (.inl ()) 0 i = bif anyN (fun k => strEq (a.Ze.getD k default).ZJ (a.Ze.getD i default).ZJ || share (a.Ze.getD k default) (a.Ze.getD i default)) i then .inr 4 else .inl () := by
 rw [← GE (β := Unit ⊕ Int)]
 refine YF fun k hk => ?_
 unfold S.Vh
 simp only [letS,GM _ hk,Zg0]
 cases strEq (a.Ze.getD k default).ZJ (a.Ze.getD i default).ZJ <;> rfl
theorem Znl (a : ZG) (hs : ∀ i,i < a.Ze.length → SmallR (a.Ze.getD i default)) : S.QU a = S.Wn a := by
 unfold S.QU S.Wn
 rw [YF (g' := S.VO a)]
 intro i hi
 have s := hs i hi
 unfold S.VL S.VO
 rw [ZjX,Zhj _ ⟨by have := s.nb; omega,by have := s.nw; omega,by have := s.ag; omega,by have := s.cd; omega,by have := s.pvr; omega⟩]
 have h2 : runN (S.Wc a i) (.inl ()) 0 i = _ := GE (β := Unit ⊕ Int) (fun k => strEq (a.Ze.getD k default).ZJ (a.Ze.getD i default).ZJ) (.inr 4) (.inl ()) i
 have h4 (j : Nat) : runN (S.VM a i j) (.inl ()) 0 i = bif anyN (fun k => ((((a.Ze.getD i default).Zc.getD j default).ZK != 0) && decide (S.Je (a.Ze.getD k default) ((a.Ze.getD i default).Zc.getD j default).Zy ≥ 0))) i then .inr 4 else .inl () := by
  rw [← GE (β := Unit ⊕ Int)]
  refine YF fun k hk => ?_
  unfold S.VM
  simp only [letS]
  cases ((a.Ze.getD i default).Zc.getD j default).ZK != 0 <;> rfl
 have h3 : runN (S.VN a i) (.inl ()) 0 ((a.Ze.getD i default).Zc).length = bif anyN (fun j => anyN (fun k => ((((a.Ze.getD i default).Zc.getD j default).ZK != 0) && decide (S.Je (a.Ze.getD k default) ((a.Ze.getD i default).Zc.getD j default).Zy ≥ 0))) i) ((a.Ze.getD i default).Zc).length then .inr 4 else .inl () := by
  rw [← GE (β := Unit ⊕ Int)]
  refine YF fun j hj => ?_
  unfold S.VN
  rw [h4]
  simp only [letS]
  cases anyN _ i <;> rfl
 rw [h2,h3]
 have he : anyN (fun k => strEq (a.Ze.getD k default).ZJ (a.Ze.getD i default).ZJ || share (a.Ze.getD k default) (a.Ze.getD i default)) i =
   (anyN (fun k => strEq (a.Ze.getD k default).ZJ (a.Ze.getD i default).ZJ) i || anyN (fun j => anyN (fun k => ((((a.Ze.getD i default).Zc.getD j default).ZK != 0) && decide (S.Je (a.Ze.getD k default) ((a.Ze.getD i default).Zc.getD j default).Zy ≥ 0))) i) ((a.Ze.getD i default).Zc).length) := by
  rw [Bool.eq_iff_iff,Bool.or_eq_true,WA,WA,WA]
  constructor
  ·rintro ⟨k,hk,h⟩
   rcases Bool.or_eq_true _ _ ▸ h with h | h
   ·exact .inl ⟨k,hk,h⟩
   ·obtain ⟨j,hj,h⟩ := WA.1 h
    exact .inr ⟨j,hj,WA.2 ⟨k,hk,h⟩⟩
  ·rintro (⟨k,hk,h⟩ | ⟨j,hj,h⟩)
   ·exact ⟨k,hk,by rw [h]; rfl⟩
   ·obtain ⟨k,hk,h⟩ := WA.1 h
    refine ⟨k,hk,?_⟩
    have : share (a.Ze.getD k default) (a.Ze.getD i default) = true := WA.2 ⟨j,hj,h⟩
    rw [this,Bool.or_true]
 rw [he]
 simp only [letS]
 cases S.Q5 (a.Ze.getD i default) != 0 with
 | true => rfl
 | false =>
  cases anyN (fun k => strEq (a.Ze.getD k default).ZJ (a.Ze.getD i default).ZJ) i with
  | true => rfl
  | false =>
   generalize anyN _ ((a.Ze.getD i default).Zc).length = b
   cases b <;> rfl
end Nv
