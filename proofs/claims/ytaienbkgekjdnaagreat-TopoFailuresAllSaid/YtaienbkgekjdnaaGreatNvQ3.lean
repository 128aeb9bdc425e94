/- The program's check of a network is the reference's. -/
import Derived.Test.YtaienbkgekjdnaaGreatNvQ1
import Derived.Test.YtaienbkgekjdnaaGreatNvQ2
namespace Nv
open Go
noncomputable def share (q r:Zf):Bool:=anyN (fun j=>((r.Zc.getD j default).ZM != 0)&&decide (S.Q9 q (r.Zc.getD j default).ZA ≥ 0)) r.Zc.length
theorem Zgo (q r:Zf):S.Jn q r=share q r:=by
 have h:=Zle (fun j=>S.Qe (r.Zc.getD j default) q) r.Zc.length
 refine Eq.trans ?_ (h.trans (ZfQ fun j _=>?_))
 ·rfl
 ·unfold S.Qe
  simp only [letS]
  rw [ZgX]
  cases (r.Zc.getD j default).ZM != 0 <;> rfl
theorem Zjd (a:ZP) (i:Nat):runN (S.Vg a i) (.inl ()) 0 i=bif anyN (fun k=>strEq (a.Zd.getD k default).ZH (a.Zd.getD i default).ZH||share (a.Zd.getD k default) (a.Zd.getD i default)) i then .inr 4 else .inl ():=by
 rw [← Gj (β:=Unit ⊕ Int)]
 refine YC fun k hk=>?_
 unfold S.Vg
 simp only [letS,Gr _ hk,Zgo]
 cases strEq (a.Zd.getD k default).ZH (a.Zd.getD i default).ZH <;> rfl
theorem ZmG (a:ZP) (hs:∀ i,i < a.Zd.length→SmallR (a.Zd.getD i default)):S.QS a=S.Wl a:=by
 unfold S.QS S.Wl
 rw [YC (g':=S.VM a)]
 intro i hi
 have s:=hs i hi
 unfold S.VN S.VM
 rw [Zjd,ZgG _ ⟨by have:=s.nb; omega,by have:=s.nw; omega,by have:=s.ag; omega,by have:=s.cd; omega,by have:=s.pvr; omega⟩]
 have h2:runN (S.Wd a i) (.inl ()) 0 i=_:=Gj (β:=Unit ⊕ Int) (fun k=>strEq (a.Zd.getD k default).ZH (a.Zd.getD i default).ZH) (.inr 4) (.inl ()) i
 have h4 (j:Nat):runN (S.VK a i j) (.inl ()) 0 i=bif anyN (fun k=>((((a.Zd.getD i default).Zc.getD j default).ZM != 0)&&decide (S.Q9 (a.Zd.getD k default) ((a.Zd.getD i default).Zc.getD j default).ZA ≥ 0))) i then .inr 4 else .inl ():=by
  rw [← Gj (β:=Unit ⊕ Int)]
  refine YC fun k hk=>?_
  unfold S.VK
  simp only [letS]
  cases ((a.Zd.getD i default).Zc.getD j default).ZM != 0 <;> rfl
 have h3:runN (S.VL a i) (.inl ()) 0 ((a.Zd.getD i default).Zc).length=bif anyN (fun j=>anyN (fun k=>((((a.Zd.getD i default).Zc.getD j default).ZM != 0)&&decide (S.Q9 (a.Zd.getD k default) ((a.Zd.getD i default).Zc.getD j default).ZA ≥ 0))) i) ((a.Zd.getD i default).Zc).length then .inr 4 else .inl ():=by
  rw [← Gj (β:=Unit ⊕ Int)]
  refine YC fun j hj=>?_
  unfold S.VL
  rw [h4]
  simp only [letS]
  cases anyN _ i <;> rfl
 rw [h2,h3]
 have he:anyN (fun k=>strEq (a.Zd.getD k default).ZH (a.Zd.getD i default).ZH||share (a.Zd.getD k default) (a.Zd.getD i default)) i =
   (anyN (fun k=>strEq (a.Zd.getD k default).ZH (a.Zd.getD i default).ZH) i||anyN (fun j=>anyN (fun k=>((((a.Zd.getD i default).Zc.getD j default).ZM != 0)&&decide (S.Q9 (a.Zd.getD k default) ((a.Zd.getD i default).Zc.getD j default).ZA ≥ 0))) i) ((a.Zd.getD i default).Zc).length):=by
  rw [Bool.eq_iff_iff,Bool.or_eq_true,V0,V0,V0]
  constructor
  ·rintro ⟨k,hk,h⟩
   rcases Bool.or_eq_true _ _ ▸ h with h | h
   ·exact .inl ⟨k,hk,h⟩
   ·obtain ⟨j,hj,h⟩:=V0.1 h
    exact .inr ⟨j,hj,V0.2 ⟨k,hk,h⟩⟩
  ·rintro (⟨k,hk,h⟩ | ⟨j,hj,h⟩)
   ·exact ⟨k,hk,by rw [h]; rfl⟩
   ·obtain ⟨k,hk,h⟩:=V0.1 h
    refine ⟨k,hk,?_⟩
    have:share (a.Zd.getD k default) (a.Zd.getD i default)=true:=V0.2 ⟨j,hj,h⟩
    rw [this,Bool.or_true]
 rw [he]
 simp only [letS]
 cases S.Q0 (a.Zd.getD i default) != 0 with
 | true=>rfl
 | false =>
  cases anyN (fun k=>strEq (a.Zd.getD k default).ZH (a.Zd.getD i default).ZH) i with
  | true=>rfl
  | false =>
   generalize anyN _ ((a.Zd.getD i default).Zc).length=b
   cases b <;> rfl
end Nv
