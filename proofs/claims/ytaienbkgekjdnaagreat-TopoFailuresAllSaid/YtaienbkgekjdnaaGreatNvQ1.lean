/- The program's check of a router is the reference's. -/
import Derived.Test.YtaienbkgekjdnaaGreatNvT1
import Derived.Test.YtaienbkgekjdnaaGreatNvLibB
namespace Nv
open Go
theorem G0:(default:Bool)=false:=rfl
theorem Ziu (c:Int):S.V5 c=S.VB c:=by
 unfold S.V5 S.VB
 rw [Bool.or_comm]
theorem Zgk (s:ByteArray):S.Ww s=S.Jo s:=by
 have e:S.Wm s=S.Wi s:=by
  funext i
  unfold S.Wm S.Wi
  simp only [letS,Ziu,S.Us]
  cases S.VB (byteAt s (i:Int)) <;> rfl
 unfold S.Ww S.Jo
 rw [e,Ziu]
theorem Zkp (a n:Int):S.YY a n=S.Q6 a n:=by
 unfold S.YY S.Q6
 simp only [letS,S.J7,S.JO,S.VI]
 have e:(if 0 > (if 32 < n then 32 else n) then 0 else (if 32 < n then 32 else n))=cl32 n:=by unfold cl32; split <;> split <;> (try split) <;> omega
 rw [e,Zhg]
theorem Zgl (p q:ZO):S.Vk p q=S.Vi p q:=rfl
theorem ZhF (p:ZO):S.QW p=S.YU p:=rfl
theorem Gq (a b c:Int):S.ZV a b c=S.ZC a b c:=rfl
theorem Ziv (a:Zf) (n:ByteArray):S.Ql a n=S.JS a n:=rfl
theorem ZhG (a:Zf) (n:ByteArray):S.Yu a n=S.QB a n:=rfl
theorem Zjb (a:Zf) (n:ByteArray):S.Y8 a n=S.JG a n:=rfl
theorem Zno (a:Zf) (n:ByteArray):S.V6 a n=S.Ul a n:=rfl
theorem ZgX (a:Zf) (n:Int):S.Vl a n=S.Q9 a n:=rfl
theorem Zed (a:Zf):S.YM a=S.Js a.Zc:=by
 unfold S.YM S.Js
 rw [YC (g':=S.QH a.Zc)]
 intro i hi
 unfold S.YE S.QH
 have hd:runN (S.Jk a.Zc i) (.inl ()) 0 i=_:=Gj (β:=Unit ⊕ Int) (fun k=>strEq (a.Zc.getD k default).ZH (a.Zc.getD i default).ZH) (.inr 4) (.inl ()) i
 have ho:runN (S.Yo a i) (.inl ()) 0 i=runN (S.Qk a.Zc i) (.inl ()) 0 i:=by
  refine YC fun j hj=>?_
  unfold S.Yo S.Qk
  simp only [Gr _ hj,Zkp,Zgl]
 rw [hd,ho]
 have hx:decide (S.Ql a (a.Zc.getD i default).ZH < (i:Int))=_:=Zay (c:=fun j=>strEq (a.Zc.getD j default).ZH (a.Zc.getD i default).ZH) hi (R4 _)
 simp only [letS]
 rw [hx,Zgk]
 cases S.Jo (a.Zc.getD i default).ZH with
 | false=>rfl
 | true =>
  cases anyN _ i with
  | true=>rfl
  | false =>
   simp only [Bool.not_true,cond_false,Sum.elim_inl,S.Qw,letS,Gq]
   generalize runN (S.Qk a.Zc i) _ 0 i=z
   generalize a.Zc.getD i default=x
   simp only [G0,bne]
   cases S.ZC x.ZM 0 32 <;> cases S.ZC x.XI 0 4094 <;> cases S.ZC x.R6 0 2 <;> simp only [Bool.not_true,Bool.not_false,Bool.or_true,Bool.or_false,Bool.true_or,Bool.false_or,cond_true,cond_false]
   generalize (x.ZM==0&&_)=b1
   generalize (!(x.ZM==0)&&_)=b2
   cases b1 <;> cases b2 <;> cases x.X5 <;> cases S.ZC x.Vb 0 255 <;> cases S.ZC x.RC 1 65535 <;> cases x.Vb==0 <;> cases x.RC==0 <;> rfl
theorem ZgC (a:Zf):S.YF a=S.QY a.Xi:=by
 unfold S.YF S.QY
 rw [YC (g':=S.Qo a.Xi)]
 intro i hi
 unfold S.Ys S.Qo
 have hd:runN (S.QU a.Xi i) (.inl ()) 0 i=_:=Gj (β:=Unit ⊕ Int) (fun k=>strEq (a.Xi.getD k default).ZH (a.Xi.getD i default).ZH) (.inr 4) (.inl ()) i
 have ho:runN (S.Yi a i) (.inl ()) 0 ((a.Xi.getD i default).Xv).length=runN (S.Qn a.Xi i) (.inl ()) 0 ((a.Xi.getD i default).Xv).length:=by
  refine YC fun j hj=>?_
  unfold S.Yi S.Qn S.Qu
  generalize ((a.Xi.getD i default).Xv).getD j default=x
  simp only [letS,ZhF]
  have e1:decide (x.Zp.ZM≤x.Zcp) = !decide (x.Zcp < x.Zp.ZM):=by simp [← Int.not_lt]
  have e2:decide (x.Zcp≤x.Zcq) = !decide (x.Zcq < x.Zcp):=by simp [← Int.not_lt]
  have e3:decide (x.Zcq≤32) = !decide (x.Zcq > 32):=by simp [← Int.not_lt]
  rw [e1,e2,e3]
  cases S.YU x.Zp <;> cases decide (x.Zcp < x.Zp.ZM) <;> cases decide (x.Zcq < x.Zcp) <;> cases decide (x.Zcq > 32) <;> rfl
 rw [hd,ho]
 have hx:decide (S.Yu a (a.Xi.getD i default).ZH < (i:Int))=_:=Zay (c:=fun j=>strEq (a.Xi.getD j default).ZH (a.Xi.getD i default).ZH) hi (R4 _)
 simp only [letS,S.YV]
 rw [hx,Zgk]
 cases S.Jo (a.Xi.getD i default).ZH with
 | false=>rfl
 | true =>
  cases anyN _ i with
  | true=>rfl
  | false =>
   simp only [Bool.not_true,cond_false,Sum.elim_inl]
   cases ((((a.Xi.getD i default).Xv).length:Int)==0) with
   | true=>rfl
   | false =>
    cases (decide ((((a.Xi.getD i default).Xv).length:Int) > 16)) <;> rfl
theorem ZgD (x:Ub):S.Jf x=((((S.ZC x.Gd (-1) 65535&&S.ZC x.W1 (-1) 16777215)&&S.ZC x.G9 (-1) 65535)&&S.ZC x.Gl (-1) 1000000)&&S.ZC x.Gm 0 8):=by
 unfold S.Jf
 simp only [letS,Gq,G0]
 cases S.ZC x.Gd (-1) 65535 <;> cases S.ZC x.W1 (-1) 16777215 <;> cases S.ZC x.G9 (-1) 65535 <;> cases S.ZC x.Gl (-1) 1000000 <;> cases S.ZC x.Gm 0 8 <;> rfl
theorem Ziw (a:Zf):S.Y9 a=S.JR a:=by
 unfold S.Y9 S.JR
 rw [YC (g':=S.Q8 a)]
 intro i hi
 unfold S.YJ S.Q8
 have hd:runN (S.JE a i) (.inl ()) 0 i=_:=Gj (β:=Unit ⊕ Int) (fun k=>strEq (a.Z9.getD k default).ZH (a.Z9.getD i default).ZH) (.inr 4) (.inl ()) i
 have ho:runN (S.Yv a i) (.inl ()) 0 ((a.Z9.getD i default).Xj).length=runN (S.Q7 a i) (.inl ()) 0 ((a.Z9.getD i default).Xj).length:=by
  refine YC fun j hj=>?_
  unfold S.Yv S.Q7
  generalize ((a.Z9.getD i default).Xj).getD j default=x
  simp only [letS,G0]
  rw [ZhG,ZgD]
  generalize (!strEq x.QX (⟨#[]⟩:ByteArray)&&_:Bool)=b
  cases b <;> cases S.ZC x.Gd (-1) 65535 <;> cases S.ZC x.W1 (-1) 16777215 <;> cases S.ZC x.G9 (-1) 65535 <;> cases S.ZC x.Gl (-1) 1000000 <;> cases S.ZC x.Gm 0 8 <;> rfl
 rw [hd,ho]
 have hx:decide (S.Y8 a (a.Z9.getD i default).ZH < (i:Int))=_:=Zay (c:=fun j=>strEq (a.Z9.getD j default).ZH (a.Z9.getD i default).ZH) hi (R4 _)
 simp only [letS,S.YV]
 rw [hx,Zgk]
 cases S.Jo (a.Z9.getD i default).ZH with
 | false=>rfl
 | true =>
  cases anyN _ i with
  | true=>rfl
  | false =>
   simp only [Bool.not_true,cond_false,Sum.elim_inl]
   cases ((((a.Z9.getD i default).Xj).length:Int)==0) with
   | true=>rfl
   | false =>
    cases (decide ((((a.Z9.getD i default).Xj).length:Int) > 8)) <;> rfl
theorem Zna (x:Kb):S.JV x=S.Vd x:=by
 unfold S.JV S.Vd
 have e (p:Vc):S.Q2 p=S.Wj p:=rfl
 simp only [letS,Gq,G0,e,S.U2]
 generalize (bitD .and .u32 x.RM.ZA x.RM.GA != 0)=b1
 generalize (bitD .and .u32 x.RN.ZA x.RN.GA != 0)=b2
 generalize (x.Yg==6||x.Yg==17)=b3
 generalize ((x.VF.GB==0)&&_)=b4
 generalize ((x.VG.GB==0)&&_)=b5
 cases S.ZC x.Yg (-1) 255 <;> cases b1 <;> cases b2 <;> cases S.Wj x.VF <;> cases S.Wj x.VG <;> cases b3 <;> cases b4 <;> cases b5 <;> rfl
theorem ZgE (a:Zf):S.JW a=S.QZ a.XK:=by
 unfold S.JW S.QZ
 rw [YC (g':=S.Qq a.XK)]
 intro i hi
 unfold S.Jl S.Qq
 have hd:runN (S.QV a.XK i) (.inl ()) 0 i=_:=Gj (β:=Unit ⊕ Int) (fun k=>strEq (a.XK.getD k default).ZH (a.XK.getD i default).ZH) (.inr 4) (.inl ()) i
 have ho:runN (S.QI a i) (.inl ()) 0 ((a.XK.getD i default).Xv).length=runN (S.Qp a.XK i) (.inl ()) 0 ((a.XK.getD i default).Xv).length:=by
  refine YC fun j hj=>?_
  unfold S.QI S.Qp
  simp only [letS,Zna]
 rw [hd,ho]
 have hx:decide (S.V6 a (a.XK.getD i default).ZH < (i:Int))=_:=Zay (c:=fun j=>strEq (a.XK.getD j default).ZH (a.XK.getD i default).ZH) hi (R4 _)
 simp only [letS,S.YV]
 rw [hx,Zgk]
 cases S.Jo (a.XK.getD i default).ZH with
 | false=>rfl
 | true =>
  cases anyN _ i with
  | true=>rfl
  | false =>
   simp only [Bool.not_true,cond_false,Sum.elim_inl]
   cases ((((a.XK.getD i default).Xv).length:Int)==0) with
   | true=>rfl
   | false =>
    cases (decide ((((a.XK.getD i default).Xv).length:Int) > 16)) <;> rfl
theorem Zgm (a:Zf):S.Vf a=S.QC a:=by
 unfold S.Vf S.QC
 rw [YC (g':=S.Y2 a)]
 intro i hi
 unfold S.JI S.Y2 S.X8 S.YZ
 generalize a.Xf.getD i default=x
 simp only [letS,G0,beq_self_eq_true,R4,Bool.true_and,Bool.and_true,bne]
 rw [Zno,Gq,Gq]
 cases x.J5==1 with
 | true =>
  simp only [cond_true]
  cases x.Qm==0 <;> cases x.YA==0 <;> simp only [Bool.not_true,Bool.not_false,Bool.true_and,Bool.false_and,Bool.and_true,Bool.and_false]
 | false =>
  simp only [cond_false]
  cases h2:x.J5==2 with
  | true =>
   simp only [cond_true]
   cases x.GB==0 <;> cases decide (x.GB≤x.Ka) <;> cases decide (wr .u32 (x.Ka - x.GB) < 8) <;> simp only [Bool.not_true,Bool.not_false,Bool.true_and,Bool.false_and,Bool.and_true,Bool.and_false]
  | false =>
   simp only [cond_false]
   cases x.J5==3 with
   | true=>rfl
   | false=>rfl
theorem Zkq (a:Zf):S.Jm a=S.Wk a:=rfl
theorem Zix:(default:Int)=0:=rfl
theorem Zkr (x:Int):decide (x ≥ 0) = !decide (x < 0):=by
 by_cases h:x < 0
 ·have:¬ x ≥ 0:=by omega
  simp [h,this]
 ·have:x ≥ 0:=by omega
  simp [h,this]
theorem Znb (x:Yh):(runT (S.Qa x) (fun s1=>s1) 0 3 (0)==1)=(bif x.Vu==0 then (bif strEq x.Jj (⟨#[]⟩:ByteArray) then x.VJ else !x.VJ) else (strEq x.Jj (⟨#[]⟩:ByteArray) && !x.VJ)):=by
 simp only [runT,S.Qa,S.YI,List.getD_cons_zero,List.getD_cons_succ,bne]
 cases x.Vu==0 <;> cases strEq x.Jj (⟨#[]⟩:ByteArray) <;> cases x.VJ <;> rfl
theorem ZgF (a:Zf) (x:Yh):S.QD a x=((((S.YU x.Zp&&(bif x.Vu==0 then (bif strEq x.Jj (⟨#[]⟩:ByteArray) then x.VJ else !x.VJ) else (strEq x.Jj (⟨#[]⟩:ByteArray) && !x.VJ)))&&((x.Vu==0)||decide (S.Q9 a x.Vu < 0)))&&S.ZC x.Xd 1 255)&&S.ZC x.Gd 0 65535):=by
 unfold S.QD
 simp only [letS,G0,Zix]
 rw [Znb,ZgX,ZhF,Gq,Gq]
 generalize (bif x.Vu==0 then (bif strEq x.Jj (⟨#[]⟩:ByteArray) then x.VJ else !x.VJ) else (strEq x.Jj (⟨#[]⟩:ByteArray) && !x.VJ))=w
 cases S.YU x.Zp <;> cases w <;> cases x.Vu==0 <;> cases S.ZC x.Xd 1 255 <;> cases S.ZC x.Gd 0 65535 <;> simp
theorem Zks (a:Zf):S.QJ a=S.VT a:=by
 unfold S.QJ S.VT
 rw [YC (g':=S.JT a)]
 intro i hi
 have ho:runN (S.YN a i) (.inl ()) 0 i=runN (S.Jt a i) (.inl ()) 0 i:=YC fun j hj=>by
  unfold S.YN S.Jt
  simp only [Gr _ hj]
 unfold S.Qj S.JT S.Jx S.Jw S.Jv S.Ju S.Yz
 rw [ho]
 generalize runN (S.Jt a i) (.inl ()) 0 i=z
 generalize a.Zr.getD i default=x
 have er:S.QD a (⟨x.Zp,x.Vu,x.Jj,x.VJ,x.Xd,x.Gd⟩:Yh)=_:=ZgF a x
 simp only [letS,G0,Zix]
 rw [er,Ziv]
 simp only [Zkr,bne]
 have w1:wr .i64 1=1:=rfl
 have w2:wr .i64 2=2:=rfl
 have w3:wr .i64 3=3:=rfl
 cases x.Vu==0 <;> cases strEq x.Jj (⟨#[]⟩:ByteArray) <;> cases x.VJ <;> cases S.YU x.Zp <;> cases S.ZC x.Xd 1 255 <;> cases S.ZC x.Gd 0 65535 <;> simp [w1,w2,w3]
theorem Zgn (a:Zf) (l:List YB) (into least most types:Int) (ht:types=bif into==3 then 2 else 0):S.YG a l into least most types=S.Yb a l into least most:=by
 unfold S.YG S.Yb
 rw [YC (g':=S.Yt a l into least most)]
 intro i hi
 have ho:runN (S.Qb l i) (.inl ()) 0 i=runN (S.Yk l i) (.inl ()) 0 i:=YC fun j hj=>by
  unfold S.Qb S.Yk
  simp only [Gr _ hj]
 unfold S.Qx S.Yt
 rw [ho]
 generalize runN (S.Yk l i) (.inl ()) 0 i=z
 generalize l.getD i default=x
 have ew:S.ZV x.Kn (if types < 1 then types else 1) types = !((((into==3)&&(x.Kn != 1))&&(x.Kn != 2))||((into != 3)&&(x.Kn != 0))):=by
  subst ht
  unfold S.ZV
  rw [Bool.eq_iff_iff]
  cases h:into==3 <;> simp [bne,h] <;> omega
 simp only [letS,G0]
 rw [Zjb,ew,Gq,Gq,Gq]
 generalize ((((into==3)&&(x.Kn != 1))&&(x.Kn != 2))||((into != 3)&&(x.Kn != 0)))=t
 cases S.ZC x.WU 1 5 <;> cases x.WU==into <;> cases S.ZC x.KP least most <;> cases S.ZC x.Gd 0 65535 <;> cases t <;> rfl
theorem Ziy (a:Zf):S.Qc a=S.JU a:=by
 unfold S.Qc S.JU
 rw [Zgn a a.X5.Zs 3 0 16777215 2 rfl,YC (g':=S.Jb a)]
 ·rfl
 intro i hi
 have ho:runN (S.Yw a i) (.inl ()) 0 i=runN (S.Ja a i) (.inl ()) 0 i:=YC fun j hj=>by
  unfold S.Yw S.Ja
  simp only [Gr _ hj,Zgl]
 unfold S.YK S.Jb
 rw [ho]
 rfl
theorem Zjc (a:Zf):S.Yj a=S.Vj a:=by
 unfold S.Yj S.Vj
 rw [Zgn a a.Ye.Zs 4 1 15 0 rfl]
 rfl
theorem Ziz (a:Zf):S.Qd a=S.Ve a:=by
 unfold S.Qd S.Ve
 rw [YC (g':=S.Jd a)]
 intro i hi
 have ho:runN (S.Yx a i) (.inl ()) 0 i=runN (S.Jc a i) (.inl ()) 0 i:=YC fun j hj=>by
  unfold S.Yx S.Jc
  simp only [Gr _ hj]
 unfold S.YL S.Jd
 rw [ho]
 rfl
theorem Zkt (a:Xb):S.QL a=S.Je a:=by
 unfold S.QL S.Je
 rw [YC (g:=S.YO a) (g':=S.Y3 a),YC (g:=S.YQ a) (g':=S.Y5 a),YC (g:=S.YS a) (g':=S.Y7 a)]
 ·intro i hi
  have ho:runN (S.YR a i) (.inl ()) 0 i=runN (S.Y6 a i) (.inl ()) 0 i:=YC fun j hj=>by
   unfold S.YR S.Y6
   simp only [Gr _ hj]
  unfold S.YS S.Y7
  rw [ho]
  rfl
 ·intro i hi
  have ho:runN (S.YP a i) (.inl ()) 0 i=runN (S.Y4 a i) (.inl ()) 0 i:=YC fun j hj=>by
   unfold S.YP S.Y4
   simp only [Gr _ hj]
  unfold S.YQ S.Y5
  rw [ho]
  rfl
 ·intro i hi
  have hd:runN (S.Qv a i) (.inl ()) 0 i=_:=Gj (β:=Unit ⊕ Int) (fun k=>((a.Zt.getD k default).ZA==(a.Zt.getD i default).ZA)&&(((a.Zt.getD k default).ZM==(a.Zt.getD i default).ZM)&&true)) (.inr 4) (.inl ()) i
  have hc:S.Xx ((a.Zt.drop 0).take (i - 0)) (a.Zt.getD i default)=anyN (fun k=>((a.Zt.getD k default).ZA==(a.Zt.getD i default).ZA)&&(((a.Zt.getD k default).ZM==(a.Zt.getD i default).ZM)&&true)) i:=by
   have hl:((a.Zt.drop 0).take (i - 0)).length=i:=by simp; omega
   have h1:=Zle (fun k=>((a.Zt.getD i default).ZA==(((a.Zt.drop 0).take (i - 0)).getD k default).ZA)&&(((a.Zt.getD i default).ZM==(((a.Zt.drop 0).take (i - 0)).getD k default).ZM)&&true)) i
   refine Eq.trans ?_ (h1.trans (ZfQ fun j hj=>?_))
   ·unfold S.Xx S.XQ
    rw [hl]
    rfl
   ·rw [Gr _ hj,BEq.comm (a:=(a.Zt.getD i default).ZA),BEq.comm (a:=(a.Zt.getD i default).ZM)]
  unfold S.YO S.Y3
  rw [hd,hc]
  simp only [letS,ZhF]
  cases S.YU (a.Zt.getD i default) with
  | false=>rfl
  | true =>
   cases anyN _ i <;> rfl
theorem ZhH (a:Zf) (hs:a.Z8.Zl.length≤100∧a.Z8.Zt.length≤100∧a.Z8.Zq.length≤100∧a.Z8.Zn.length≤100∧a.Z8.Zs.length≤100):S.YT a=S.Jy a:=by
 unfold S.YT S.Jy
 rw [Ziz,Zkt,Zgn a a.Z8.Zs 5 0 16777215 0 rfl]
 have w (x:Int) (h1:0≤x) (h2:x≤1000):wr .i64 x=x:=by unfold wr; exact IntWalk.i64_in _ (by omega)
 rw [w ((a.Z8.Zl.length:Int)+(a.Z8.Zt.length:Int)) (by omega) (by omega)]
 rw [w ((a.Z8.Zl.length:Int)+(a.Z8.Zt.length:Int)+(a.Z8.Zq.length:Int)) (by omega) (by omega)]
 rw [w ((a.Z8.Zl.length:Int)+(a.Z8.Zt.length:Int)+(a.Z8.Zq.length:Int)+(a.Z8.Zn.length:Int)) (by omega) (by omega)]
 rw [w ((a.Z8.Zl.length:Int)+(a.Z8.Zt.length:Int)+(a.Z8.Zq.length:Int)+(a.Z8.Zn.length:Int)+(a.Z8.Zs.length:Int)) (by omega) (by omega)]
 have e:(decide ((((a.Z8.Zl.length:Int)+(a.Z8.Zt.length:Int)+(a.Z8.Zq.length:Int))+(a.Z8.Zn.length:Int))+(a.Z8.Zs.length:Int) > 0)) =
   ((((decide ((a.Z8.Zl.length:Int) > 0)||decide ((a.Z8.Zt.length:Int) > 0))||decide ((a.Z8.Zq.length:Int) > 0))||decide ((a.Z8.Zn.length:Int) > 0))||decide ((a.Z8.Zs.length:Int) > 0)):=by
  simp only [← Bool.decide_or]
  congr 1
  simp only [eq_iff_iff]
  omega
 rw [e]
 simp only [Bool.or_assoc]
 rfl
theorem ZgG (a:Zf) (hs:a.Z8.Zl.length≤100∧a.Z8.Zt.length≤100∧a.Z8.Zq.length≤100∧a.Z8.Zn.length≤100∧a.Z8.Zs.length≤100):S.Jg a=S.Q0 a:=by
 unfold S.Jg S.Q0
 simp only [letS]
 rw [Zgk,Gq,Zed,ZgC,Ziw,ZgE,Zgm,Zkq,Zks,Ziy,Zjc,ZhH a hs]
 have h:=Zlf [S.Js a.Zc,S.QY a.Xi,S.JR a,S.QZ a.XK,S.QC a,S.Wk a,S.VT a,S.JU a,S.Vj a,S.Jy a]
 cases S.Jo a.ZH with
 | false=>rfl
 | true =>
  cases S.ZC a.GC 0 65535 with
  | false=>rfl
  | true=>exact h.symm
end Nv
