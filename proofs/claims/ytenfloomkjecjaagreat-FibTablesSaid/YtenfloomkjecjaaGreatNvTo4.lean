/- What the reference's check of a network tells where it finds nothing. No condition. -/
import Derived.Test.YtenfloomkjecjaaGreatNvTo1
import Derived.Test.YtenfloomkjecjaaGreatNvT1
import Derived.Test.YtenfloomkjecjaaGreatNvLibB
import Derived.Test.YtenfloomkjecjaaGreatNvQ2
set_option maxRecDepth 100000
namespace Nv
open Go
theorem Ze2 {g:Nat→Option (Unit ⊕ Int)} {n:Nat} (h0:∀ i y,g i=some y→∃ e,y = .inr e∧e ≠ 0) (h:Sum.elim (fun _=>(0:Int)) (fun y=>y) (runN g (.inl ()) 0 n)=0):∀ i,i < n→g i=none:=by
 rcases Ul g (.inl ()) n 0 with ⟨j,h1,h2,h3,h4⟩ | ⟨h1,h2⟩
 ·obtain ⟨e,he,hne⟩:=h0 _ _ h3
  rw [he] at h
  exact absurd h hne
 ·exact fun i hi=>h2 i (Nat.zero_le _) (by omega)
theorem Ku {g:Nat→Option (Unit ⊕ Int)} {v:Int} (h0:∀ i y,g i=some y→y = .inr v) (n:Nat):(runN g (.inl ()) 0 n = .inl ()∧∀ i,i < n→g i=none)∨runN g (.inl ()) 0 n = .inr v:=by
 rcases Ul g (.inl ()) n 0 with ⟨k,h1,h2,h3,h4⟩ | ⟨h1,h2⟩
 ·exact .inr (h0 _ _ h3)
 ·exact .inl ⟨h1,fun i hi=>h2 i (Nat.zero_le _) (by omega)⟩
theorem Zlu {β:Type} {g:Nat→Option β} {e:β} {n:Nat} (hb:∀ i,i < n→g i=none):runN g e 0 n=e:=by
 rcases Ul g e n 0 with ⟨k,h1,h2,h3,h4⟩ | ⟨h1,h2⟩
 ·rw [hb k (by omega)] at h3; cases h3
 ·exact h1
theorem ZfX {b:Bool} {v:Int} {y:Unit ⊕ Int} (h:(bif b then some (.inr v) else none)=some y):y = .inr v:=by
 cases b
 ·cases h
 ·cases h; rfl
theorem Zjo {b:Bool} {y:Unit ⊕ Int} (h:(bif b then some y else none)=none):b=false:=by
 cases b
 ·rfl
 ·cases h
theorem rnet (a n:Int):S.QY a n=netP a n:=by
 unfold S.QY netP
 have e:(if 0 > (if 32 < n then 32 else n) then 0 else (if 32 < n then 32 else n))=cl32 n:=by unfold cl32; split <;> split <;> (try split) <;> omega
 simp only [letS,e]
 rw [show S.J1 (cl32 n)=mk32 (cl32 n) from rfl,ZdC]
theorem Zow (a n:Int):M.QY a n=some (netP a n):=by rw [Rb,rnet]
theorem rover (a n:Int):S.QR (netP a n) (netP a n)=true:=by
 have h:S.VD (netP a n) (netP a n)=true:=by
  unfold S.VD S.Jf
  simp only [letS,Int.le_refl,decide_true,cond_true,Bool.true_and,beq_iff_eq]
  show bitD .and .u32 (bitD .and .u32 a (mk32 n)) (S.J1 (cl32 n))=bitD .and .u32 a (mk32 n)
  rw [show S.J1 (cl32 n)=mk32 (cl32 n) from rfl,ZdC,ZgW a (Int.le_refl _)]
 unfold S.QR
 simp only [letS,h,Bool.true_or]
theorem Zlv {l:List ZA} (h:S.Yx l=0) {i k:Nat} (hi:i < l.length) (hk:k < i) (h1:(l.getD i default).ZE ≠ 0) (h2:(l.getD k default).ZE ≠ 0) :
  S.QR (netP (l.getD i default).Zm (l.getD i default).ZE) (netP (l.getD k default).Zm (l.getD k default).ZE)=false:=by
 have l2:∀ i k y,S.Y8 l i k=some y→y = .inr 4:=fun i k y h=>by
  unfold S.Y8 at h
  exact ZfX h
 have l3:∀ i k y,S.YL l i k=some y→y = .inr 6:=fun i k y h=>by
  unfold S.YL at h
  simp only [letS] at h
  exact ZfX h
 have val:∀ i y,S.YM l i=some y→(∃ e,y = .inr e∧e ≠ 0):=fun i y h=>by
  unfold S.YM at h
  simp only [letS] at h
  revert h
  cases S.Jy (l.getD i default).XG with
  | false=>intro h; cases h; exact ⟨3,rfl,by decide⟩
  | true =>
   rcases Ku (l2 i) i with ⟨e2,_⟩ | e2
   ·rw [e2]
    simp only [Bool.not_true,cond_false,Sum.elim_inl]
    generalize ((_||_:Bool))=c1
    cases c1
    ·rw [cond_false]
     generalize ((_||_:Bool))=c2
     cases c2
     ·rw [cond_false]
      generalize ((_||_:Bool))=c3
      cases c3
      ·rw [cond_false]
       rcases Ku (l3 i) i with ⟨e3,_⟩ | e3
       ·rw [e3]; intro h; cases h
       ·rw [e3]; intro h; cases h; exact ⟨6,rfl,by decide⟩
      ·intro h; cases h; exact ⟨1,rfl,by decide⟩
     ·intro h; cases h; exact ⟨1,rfl,by decide⟩
    ·intro h; cases h; exact ⟨1,rfl,by decide⟩
   ·rw [e2]; intro h; cases h; exact ⟨4,rfl,by decide⟩
 unfold S.Yx at h
 cases hc:decide ((l.length:Int) > 8) with
 | true=>rw [hc] at h; simp at h
 | false =>
  rw [hc] at h
  simp only [cond_false,letS] at h
  have hr:=Ze2 val h i hi
  unfold S.YM at hr
  simp only [letS] at hr
  revert hr
  cases S.Jy (l.getD i default).XG with
  | false=>intro h; cases h
  | true =>
   rcases Ku (l2 i) i with ⟨e2,_⟩ | e2
   ·rw [e2]
    simp only [Bool.not_true,cond_false,Sum.elim_inl]
    generalize ((_||_:Bool))=c1
    cases c1
    ·rw [cond_false]
     generalize ((_||_:Bool))=c2
     cases c2
     ·rw [cond_false]
      generalize ((_||_:Bool))=c3
      cases c3
      ·rw [cond_false]
       rcases Ku (l3 i) i with ⟨e3,n3⟩ | e3
       ·intro _
        have h4:=n3 k hk
        unfold S.YL at h4
        simp only [letS,rnet] at h4
        have h5:=Zjo h4
        have g1:((l.getD i default).ZE != 0)=true:=by simpa using h1
        have g2:((l.getD k default).ZE != 0)=true:=by simpa using h2
        simpa only [g1,g2,Bool.and_self,cond_true,Bool.true_and] using h5
       ·rw [e3]; intro h; cases h
      ·intro h; cases h
     ·intro h; cases h
    ·intro h; cases h
   ·rw [e2]; intro h; cases h
theorem rrouter {a:Zi} (h:S.YJ a=0):S.Yx a.Zc=0:=by
 unfold S.YJ at h
 simp only [letS] at h
 cases h1:S.Jy a.XG with
 | false=>rw [h1] at h; simp at h
 | true =>
  cases h2:S.ZT a.KQ 0 65535 with
  | false=>rw [h1,h2] at h; simp at h
  | true =>
   rw [h1,h2] at h
   simp only [Bool.not_true,cond_false] at h
   have hv:∀ i y,S.Yy (S.Yx a.Zc) (S.QP a.YV) (S.JB a) (S.QQ a.Y5) (S.Qn a) (S.VQ a) (S.VR a) (S.JD a) (S.Vb a) (S.Q8 a) i=some y→∃ e,y = .inr e∧e ≠ 0:=fun i y hy=>by
    unfold S.Yy at hy
    revert hy
    generalize (_:List Int).getD i default=x
    intro hy
    cases hb:x != 0 with
    | true=>rw [hb] at hy; cases hy; exact ⟨x,rfl,by simpa using hb⟩
    | false=>rw [hb] at hy; cases hy
   have h0:=Ze2 hv h 0 (by simp)
   unfold S.Yy at h0
   cases hb:(S.Yx a.Zc) != 0 with
   | true =>
    rw [show ([S.Yx a.Zc,S.QP a.YV,S.JB a,S.QQ a.Y5,S.Qn a,S.VQ a,S.VR a,S.JD a,S.Vb a,S.Q8 a]:List Int).getD 0 default=S.Yx a.Zc from rfl,hb] at h0
    cases h0
   | false=>simpa using hb
theorem rcheck {a:ZI} (h:S.JE a=0) {i:Nat} (hi:i < a.Ze.length):S.YJ (a.Ze.getD i default)=0 ∧
  ∀ j,j < nif a i→(ifc a i j).ZE ≠ 0→∀ k,k < i→S.Vl (a.Ze.getD k default) (ifc a i j).Zm < 0:=by
 have l2:∀ i k y,S.Vc a i k=some y→y = .inr 4:=fun i k y h=>by
  unfold S.Vc at h
  exact ZfX h
 have l4:∀ i j k y,S.JQ a i j k=some y→y = .inr 4:=fun i j k y h=>by
  unfold S.JQ at h
  simp only [letS] at h
  exact ZfX h
 have l3:∀ i j y,S.JR a i j=some y→y = .inr 4:=fun i j y h=>by
  unfold S.JR at h
  simp only [letS] at h
  rcases Ku (l4 i j) i with ⟨e,_⟩ | e <;> rw [e] at h <;> cases h
  rfl
 have val:∀ i y,S.JS a i=some y→(∃ e,y = .inr e∧e ≠ 0):=fun i y h=>by
  unfold S.JS at h
  simp only [letS] at h
  cases hb:S.YJ (a.Ze.getD i default) != 0 with
  | true=>rw [hb] at h; cases h; exact ⟨_,rfl,by simpa using hb⟩
  | false =>
   rw [hb] at h
   simp only [cond_false] at h
   rcases Ku (l2 i) i with ⟨e2,_⟩ | e2
   ·rw [e2] at h
    simp only [Sum.elim_inl] at h
    rcases Ku (l3 i) ((a.Ze.getD i default).Zc.length) with ⟨e3,_⟩ | e3 <;> rw [e3] at h <;> cases h
    exact ⟨4,rfl,by decide⟩
   ·rw [e2] at h; cases h; exact ⟨4,rfl,by decide⟩
 unfold S.JE at h
 cases hc:decide ((a.Ze.length:Int) > 8) with
 | true=>rw [hc] at h; simp at h
 | false =>
  rw [hc] at h
  simp only [cond_false,letS] at h
  have hr:=Ze2 val h i hi
  unfold S.JS at hr
  simp only [letS] at hr
  cases hb:S.YJ (a.Ze.getD i default) != 0 with
  | true=>rw [hb] at hr; cases hr
  | false =>
   rw [hb] at hr
   simp only [cond_false] at hr
   refine ⟨by simpa using hb,fun j hj hl k hk=>?_⟩
   rcases Ku (l2 i) i with ⟨e2,_⟩ | e2
   ·rw [e2] at hr
    simp only [Sum.elim_inl] at hr
    rcases Ku (l3 i) ((a.Ze.getD i default).Zc.length) with ⟨e3,n3⟩ | e3
    ·have h5:=n3 j hj
     unfold S.JR at h5
     simp only [letS] at h5
     rcases Ku (l4 i j) i with ⟨e4,n4⟩ | e4
     ·have h6:=n4 k hk
      unfold S.JQ at h6
      simp only [letS] at h6
      have h7:=Zjo h6
      rw [show ((a.Ze.getD i default).Zc.getD j default)=ifc a i j from rfl] at h7
      have g1:((ifc a i j).ZE != 0)=true:=by simpa using hl
      simp only [g1,cond_true,Bool.true_and] at h7
      have:=of_decide_eq_false h7
      omega
     ·rw [e4] at h5; cases h5
    ·rw [e3] at hr; cases hr
   ·rw [e2] at hr; cases hr
theorem rapart {a:ZI} (h:S.JE a=0):ApartN a:=by
 intro r hr i hi k hk h1 h2 he
 have hc:=rrouter (rcheck h hr).1
 have e1:(ifc a r i).ZE ≠ 0:=fun hh=>by unfold elig at h1; rw [hh] at h1; cases h1
 have e2:(ifc a r k).ZE ≠ 0:=fun hh=>by unfold elig at h2; rw [hh] at h2; cases h2
 have h3:=Zlv hc hi hk e1 e2
 unfold ikey at he
 simp only [Prod.mk.injEq] at he
 have hp:netP (ifc a r k).Zm (ifc a r k).ZE=netP (ifc a r i).Zm (ifc a r i).ZE:=by
  revert he
  generalize netP (ifc a r k).Zm (ifc a r k).ZE=p
  generalize netP (ifc a r i).Zm (ifc a r i).ZE=q
  intro he
  cases p; cases q
  simp only at he
  simp [he.1,he.2.1]
 rw [show ((a.Ze.getD r default).Zc.getD i default)=ifc a r i from rfl,show ((a.Ze.getD r default).Zc.getD k default)=ifc a r k from rfl,hp,rover] at h3
 cases h3
theorem ZmV {a:ZI} (h:S.VC a=true):a.Ze.length≤9∧∀ r,nif a r≤12:=by
 unfold S.VC at h
 cases hl:decide ((a.Ze.length:Int) > 9) with
 | true=>rw [hl] at h; cases h
 | false =>
  rw [hl] at h
  simp only [cond_false,letS] at h
  refine ⟨by have:=of_decide_eq_false hl; omega,fun r=>?_⟩
  rcases Nat.lt_or_ge r a.Ze.length with hr | hr
  ·rcases Ul (S.QO a) (.inl ()) a.Ze.length 0 with ⟨j,h1,h2,h3,h4⟩ | ⟨h1,h2⟩
   ·revert h3 h
    generalize runN (S.QO a) (.inl ()) 0 a.Ze.length=z
    intro h h3
    unfold S.QO at h3
    simp only [letS] at h3
    cases hs:S.Wc (a.Ze.getD j default) with
    | true=>rw [hs] at h3; cases h3
    | false =>
     rw [hs] at h3
     simp only [Bool.not_false,cond_true,Option.some.injEq] at h3
     rw [← h3] at h
     cases h
   ·have:=h2 r (Nat.zero_le _) (by omega)
    unfold S.QO at this
    simp only [letS] at this
    cases hs:S.Wc (a.Ze.getD r default) with
    | false=>rw [hs] at this; cases this
    | true=>exact (ZmR hs).ifs
  ·unfold nif
   rw [List.getD_eq_getElem?_getD,List.getElem?_eq_none hr]
   exact Nat.zero_le _
end Nv
