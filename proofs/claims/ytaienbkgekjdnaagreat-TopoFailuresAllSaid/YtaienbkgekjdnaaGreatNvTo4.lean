/- What the reference's check of a network tells where it finds nothing. No condition. -/
import Derived.Test.YtaienbkgekjdnaaGreatNvTo1
import Derived.Test.YtaienbkgekjdnaaGreatNvT1
import Derived.Test.YtaienbkgekjdnaaGreatNvLibB
import Derived.Test.YtaienbkgekjdnaaGreatNvQ2
set_option maxRecDepth 100000
namespace Nv
open Go
theorem rnet (a n:Int):S.Q6 a n=netP a n:=by
 unfold S.Q6 netP
 have e:(if 0 > (if 32 < n then 32 else n) then 0 else (if 32 < n then 32 else n))=cl32 n:=by unfold cl32; split <;> split <;> (try split) <;> omega
 simp only [letS,e]
 rw [show S.VI (cl32 n)=mk32 (cl32 n) from rfl,Zhg]
theorem Znf (a n:Int):M.Q6 a n=some (netP a n):=by rw [Rf,rnet]
theorem ZiB {a:ZP} (h:S.VA a=true):a.Zd.length≤9∧∀ r,nif a r≤12:=by
 unfold S.VA at h
 cases hl:decide ((a.Zd.length:Int) > 9) with
 | true=>rw [hl] at h; cases h
 | false =>
  rw [hl] at h
  simp only [cond_false,letS] at h
  refine ⟨by have:=of_decide_eq_false hl; omega,fun r=>?_⟩
  rcases Nat.lt_or_ge r a.Zd.length with hr | hr
  ·rcases Kp (S.Y1 a) (.inl ()) a.Zd.length 0 with ⟨j,h1,h2,h3,h4⟩ | ⟨h1,h2⟩
   ·revert h3 h
    generalize runN (S.Y1 a) (.inl ()) 0 a.Zd.length=z
    intro h h3
    unfold S.Y1 at h3
    simp only [letS] at h3
    cases hs:S.VW (a.Zd.getD j default) with
    | true=>rw [hs] at h3; cases h3
    | false =>
     rw [hs] at h3
     simp only [Bool.not_false,cond_true,Option.some.injEq] at h3
     rw [← h3] at h
     cases h
   ·have:=h2 r (Nat.zero_le _) (by omega)
    unfold S.Y1 at this
    simp only [letS] at this
    cases hs:S.VW (a.Zd.getD r default) with
    | false=>rw [hs] at this; cases this
    | true=>exact (ZiA hs).ifs
  ·unfold nif
   rw [List.getD_eq_getElem?_getD,List.getElem?_eq_none hr]
   exact Nat.zero_le _
end Nv
