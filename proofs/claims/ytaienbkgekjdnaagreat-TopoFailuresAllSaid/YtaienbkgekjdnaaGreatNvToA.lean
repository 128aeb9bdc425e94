/- The program's Build in words. No condition but the bounds of what comes in. -/
import Derived.Test.YtaienbkgekjdnaaGreatNvTo2
import Derived.Test.YtaienbkgekjdnaaGreatNvTo5
import Derived.Test.YtaienbkgekjdnaaGreatNvQ3
set_option maxRecDepth 100000
namespace Nv
open Go Go.Sort Go.Proofs
theorem Zg0 {a:ZP} (h:S.VA a=true):∀ i,i < a.Zd.length→SmallR (a.Zd.getD i default):=by
 intro r hr
 unfold S.VA at h
 cases hl:decide ((a.Zd.length:Int) > 9) with
 | true=>rw [hl] at h; cases h
 | false =>
  rw [hl] at h
  simp only [cond_false,letS] at h
  rcases Kp (S.Y1 a) (.inl ()) a.Zd.length 0 with ⟨j,h1,h2,h3,h4⟩ | ⟨h1,h2⟩
  ·revert h3 h
   generalize runN (S.Y1 a) (.inl ()) 0 a.Zd.length=z
   intro h h3
   unfold S.Y1 at h3
   simp only [letS] at h3
   cases hs:S.VW (a.Zd.getD j default) with
   | true=>rw [hs] at h3; cases h3
   | false =>
    rw [hs] at h3
    simp only [Bool.not_false,cond_true,Option.some.injEq] at h3
    rw [← h3] at h
    cases h
  ·have:=h2 r (Nat.zero_le _) (by omega)
   unfold S.Y1 at this
   simp only [letS] at this
   cases hs:S.VW (a.Zd.getD r default) with
   | false=>rw [hs] at this; cases this
   | true=>exact ZiA hs
theorem ZkA {a:ZP} (ha:Yy a) (hR:a.Zd.length≤9) (hI:∀ r,nif a r≤12) :
  (S.QS a ≠ 0∧M.Wx a=some (⟨[],[]⟩,S.QS a))∨(S.QS a=0∧∃ D,M.Wx a=some (topoOf D)∧Grp (itN a a.Zd.length) D∧Asc D):=by
 unfold M.Wx
 rw [ZcY a ha]
 simp only [Option.bind_some]
 cases hc:S.QS a != 0 with
 | true=>exact .inl ⟨by simpa using hc,rfl⟩
 | false =>
  right
  refine ⟨by simpa using hc,?_⟩
  have hl:=Zef a hI a.Zd.length
  have hl2:a.Zd.length*12≤9*12:=Nat.mul_le_mul_right _ hR
  obtain ⟨D,h1,h2⟩:=Zjf hR hI
  obtain ⟨E,h3,h4,h5,h6⟩:=ZmJ h2 (by omega)
  have hE:=h5.len
  have hd:decide (E.length=D.length)=true:=dt h4
  refine ⟨E,?_,h5,h6⟩
  rw [h1]
  simp only [cond_false,Option.bind_some,h3,gd,List.all_cons,List.all_nil,hd,id,Bool.and_self,cond_true,ZlQ E (by omega)]
  unfold topoOf
  rw [show lks E E.length=rlks E E.length from rfl]
  cases decide (((rlks E E.length).length:Int) > 12) <;> rfl
end Nv
