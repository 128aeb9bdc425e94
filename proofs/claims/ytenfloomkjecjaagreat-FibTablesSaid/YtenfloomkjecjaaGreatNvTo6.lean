/- Views: what is known of them. No condition but the bounds of what comes in. -/
import Derived.Test.YtenfloomkjecjaaGreatNvTo5
import Derived.Test.YtenfloomkjecjaaGreatNvLW
set_option maxRecDepth 100000
namespace Nv
open Go
structure VF (v:XL):Prop where
 nr:v.Zcb.Ze.length≤9
 ni:∀ r,nif v.Zcb r≤12
 ln:YY v.Zcb
 ap:ApartN v.Zcb
 chk:S.JE v.Zcb=0
 grp:Grp (itN v.Zcb v.Zcb.Ze.length) v.Yf.Xe
 asc:Asc v.Yf.Xe
 len:v.Yf.Xe.length≤108
 lks:v.Yf.J0=rlks v.Yf.Xe v.Yf.Xe.length
 dn:v.Jx.length≤2
 dpos:∀ x∈v.Jx,0≤x∧x < (v.Yf.J0.length:Int)
theorem VF.ends {v:XL} (h:VF v) {d:Zj} (hd:d∈v.Yf.Xe):d.ZW.length≤108:=by
 have:=congrArg List.length (h.grp.ends d hd)
 unfold dends sel at this
 rw [List.length_map,List.length_map] at this
 have h1:=List.length_filter_le (fun x=>decide (x.1=dkey d)) (itN v.Zcb v.Zcb.Ze.length)
 have h2:=ZfW v.Zcb h.ni v.Zcb.Ze.length
 have h3:v.Zcb.Ze.length*12≤9*12:=Nat.mul_le_mul_right _ h.nr
 omega
theorem VF.L {v:XL} (h:VF v):J8 v:=by
 have hM:=Zn
 have h1:=h.len
 have h2:=h.dn
 refine ⟨h.ln,⟨⟨by omega,fun d hd=>?_⟩,?_⟩,by omega⟩
 ·have:=h.ends hd
  show d.ZW.length≤maxLen
  omega
 ·rw [h.lks]
  have:=Zjp v.Yf.Xe v.Yf.Xe.length
  omega
theorem ZoA {l:List Int} {n:Int} (h:S.Q9 l n=true):l.length≤2∧∀ x∈l,0≤x∧x < n:=by
 unfold S.Q9 at h
 cases hl:decide ((l.length:Int) > 2) with
 | true=>rw [hl] at h; cases h
 | false =>
  rw [hl] at h
  simp only [cond_false,letS] at h
  refine ⟨by have:=of_decide_eq_false hl; omega,fun x hx=>?_⟩
  obtain ⟨j,hj,hjx⟩:=List.getElem_of_mem hx
  have hget:l.getD j default=x:=by rw [List.getD_eq_getElem?_getD,List.getElem?_eq_getElem hj]; exact hjx
  have key:S.Yo l n j=none:=by
   rcases Ul (S.Yo l n) (.inl ()) l.length 0 with ⟨k,h1,h2,h3,h4⟩ | ⟨h1,h2⟩
   ·exfalso
    revert h3 h
    generalize runN (S.Yo l n) (.inl ()) 0 l.length=z
    intro h h3
    unfold S.Yo at h3
    revert h3
    generalize ((_||_:Bool))=b
    intro h3
    cases b
    ·cases h3
    ·cases h3; cases h
   ·exact h2 j (Nat.zero_le _) (by omega)
  unfold S.Yo at key
  rw [hget] at key
  cases h1:decide (x < 0) with
  | true=>rw [h1] at key; simp at key
  | false =>
   cases h2:decide (x ≥ n) with
   | true=>rw [h1,h2] at key; simp at key
   | false =>
    have g1:=of_decide_eq_false h1
    have g2:=of_decide_eq_false h2
    omega
theorem ZnZ {a:ZI} (ha:YY a) (dn:List Int) (hd:dn.length≤maxLen):∃ v ok,M.GH a dn=some (v,ok)∧(ok=true→VF v∧v.Zcb=a∧v.Jx=dn∧∀ dn',dn'.length≤maxLen→∃ v' ok',M.GH a dn'=some (v',ok')∧(ok'=true→v'.Yf=v.Yf)):=by
 have key:S.VC a=true→a.Ze.length≤9∧∀ r,nif a r≤12:=ZmV
 have gen:∀ dn:List Int,dn.length≤maxLen→∃ v ok,M.GH a dn=some (v,ok)∧(ok=true→VF v∧v.Zcb=a∧v.Jx=dn∧(S.VC a=true∧∃ D,M.Ge a=some (topoOf D)∧v.Yf=(topoOf D).1)):=fun dn hd=>by
  unfold M.GH
  rw [Zha a ha]
  simp only [Option.bind_some]
  cases hs:S.VC a with
  | false=>exact ⟨_,_,rfl,fun h=>by cases h⟩
  | true =>
   obtain ⟨hR,hI⟩:=key hs
   cases hl:decide ((dn.length:Int) > 2) with
   | true=>exact ⟨_,_,rfl,fun h=>by cases h⟩
   | false =>
    simp only [Bool.not_true,Bool.or_self,cond_false]
    have hl2:=of_decide_eq_false hl
    unfold M.Zah
    rcases Zlz ha hR hI with ⟨h1,h2⟩ | ⟨h1,D,h2,h3,h4,h5⟩
    ·rw [h2]
     simp only [Option.bind_some]
     rw [show (S.JE a != 0)=true by simpa using h1]
     exact ⟨_,_,rfl,fun h=>by simp at h; exact absurd h h1⟩
    ·rw [h2]
     simp only [Option.bind_some]
     unfold topoOf
     cases hk:decide (((rlks D D.length).length:Int) > 12) with
     | true=>exact ⟨_,_,rfl,fun h=>by cases h⟩
     | false =>
      simp only [cond_false,bne_self_eq_false]
      rw [Zej dn _ hd]
      simp only [Option.bind_some]
      cases hasc:S.Q9 dn ((rlks D D.length).length:Int) with
      | false=>exact ⟨_,_,rfl,fun h=>by cases h⟩
      | true =>
       obtain ⟨g1,g2⟩:=ZoA hasc
       have gc1:decide ((0+dn.length)*8≤140737488355328)=true:=dt (by omega)
       simp only [Bool.not_true,cond_false,gd,List.all_cons,List.all_nil,decide_true,Bool.true_or,id,gc1,Bool.and_self,cond_true,Option.bind_some,BEq.rfl]
       refine ⟨_,_,rfl,fun _=>⟨⟨hR,hI,ha,rapart h1,h1,h3,h4,h5,rfl,g1,g2⟩,rfl,rfl,trivial,D,?_,?_⟩⟩
       ·rw [hk]; rfl
       ·rw [hk]; rfl
 obtain ⟨v,ok,h1,h2⟩:=gen dn hd
 refine ⟨v,ok,h1,fun hok=>?_⟩
 obtain ⟨g1,g2,g3,_,D,g4,g5⟩:=h2 hok
 refine ⟨g1,g2,g3,fun dn' hd'=>?_⟩
 obtain ⟨v',ok',k1,k2⟩:=gen dn' hd'
 refine ⟨v',ok',k1,fun hok'=>?_⟩
 obtain ⟨_,_,_,_,D',k4,k5⟩:=k2 hok'
 rw [k4] at g4
 rw [k5,g5,Option.some.inj g4]
def has (d:Zj) (e:DEnd):Bool:=decide (e∈dends d)
def domI (v:XL) (e:DEnd):Int:=idxN (fun k=>has (v.Yf.Xe.getD k default) e) v.Yf.Xe.length
theorem ZkH {d:Zj} {x y:Int}:anyN (fun j=>((d.ZW.getD j default).UQ==x)&&((d.ZW.getD j default).ZP==y)) d.ZW.length=has d (x,y):=by
 unfold has dends
 rw [Bool.eq_iff_iff,GM,decide_eq_true_eq]
 simp only [Bool.and_eq_true,beq_iff_eq,List.mem_map]
 constructor
 ·rintro ⟨j,hj,h1,h2⟩
  refine ⟨d.ZW.getD j default,?_,by unfold dend; rw [h1,h2]⟩
  rw [List.getD_eq_getElem?_getD,List.getElem?_eq_getElem hj]; exact List.getElem_mem hj
 ·rintro ⟨e,he,h1⟩
  obtain ⟨j,hj,hje⟩:=List.getElem_of_mem he
  unfold dend at h1
  simp only [Prod.mk.injEq] at h1
  refine ⟨j,hj,?_⟩
  rw [List.getD_eq_getElem?_getD,List.getElem?_eq_getElem hj,Option.getD_some,hje]
  exact h1
def lnkI (v:XL) (d:Int):Int:=idxN (fun k=>d==v.Yf.J0.getD k default) v.Yf.J0.length
def upV (v:XL) (e:DEnd):Bool:=bif decide (domI v e < 0) then false else (decide (lnkI v (domI v e) < 0) || !anyN (fun k=>lnkI v (domI v e)==v.Jx.getD k default) v.Jx.length)
end Nv
