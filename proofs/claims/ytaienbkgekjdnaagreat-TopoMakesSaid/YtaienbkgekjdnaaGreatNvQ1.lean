/- The program's check of a router is the reference's. -/
import Derived.Test.YtaienbkgekjdnaaGreatNvT1
import Derived.Test.YtaienbkgekjdnaaGreatNvLibB
namespace Nv
open Go
theorem Ki : (default : Bool) = false := rfl
theorem Zjg (c : Int) : S.V3 c = S.VE c := by
 unfold S.V3 S.VE
 rw [Bool.or_comm]
theorem ZgW (s : ByteArray) : S.WD s = S.Jr s := by
 have e : S.Wh s = S.Wk s := by
  funext i
  unfold S.Wh S.Wk
  simp only [letS,Zjg,S.UE]
  cases S.VE (byteAt s (i : Int)) <;> rfl
 unfold S.WD S.Jr
 rw [e,Zjg]
theorem Zk8 (a n : Int) : S.Y2 a n = S.Jb a n := by
 unfold S.Y2 S.Jb
 simp only [letS,S.Vb,S.JT,S.VI]
 have e : (if 0 > (if 32 < n then 32 else n) then 0 else (if 32 < n then 32 else n)) = cl32 n := by unfold cl32; split <;> split <;> (try split) <;> omega
 rw [e,ZhZ]
theorem ZgX (p q : ZS) : S.Vl p q = S.Vo p q := rfl
theorem Zio (p : ZS) : S.QZ p = S.YY p := rfl
theorem GK (a b c : Int) : S.ZZ a b c = S.ZD a b c := rfl
theorem Zjh (a : Zf) (n : ByteArray) : S.Qn a n = S.J2 a n := rfl
theorem Zip (a : Zf) (n : ByteArray) : S.Yy a n = S.QH a n := rfl
theorem ZjV (a : Zf) (n : ByteArray) : S.Y5 a n = S.JM a n := rfl
theorem Zn1 (a : Zf) (n : ByteArray) : S.V4 a n = S.Ut a n := rfl
theorem ZhC (a : Zf) (n : Int) : S.Vm a n = S.Je a n := rfl
theorem ZeO (a : Zf) : S.YQ a = S.Jw a.Zc := by
 unfold S.YQ S.Jw
 rw [YF (g' := S.QS a.Zc)]
 intro i hi
 unfold S.YG S.QS
 have hd : runN (S.Jp a.Zc i) (.inl ()) 0 i = _ := GE (β := Unit ⊕ Int) (fun k => strEq (a.Zc.getD k default).ZJ (a.Zc.getD i default).ZJ) (.inr 4) (.inl ()) i
 have ho : runN (S.Yr a i) (.inl ()) 0 i = runN (S.Qo a.Zc i) (.inl ()) 0 i := by
  refine YF fun j hj => ?_
  unfold S.Yr S.Qo
  simp only [GM _ hj,Zk8,ZgX]
 rw [hd,ho]
 have hx : decide (S.Qn a (a.Zc.getD i default).ZJ < (i : Int)) = _ := ZaO (c := fun j => strEq (a.Zc.getD j default).ZJ (a.Zc.getD i default).ZJ) hi (JF _)
 simp only [letS]
 rw [hx,ZgW]
 cases S.Jr (a.Zc.getD i default).ZJ with
 | false => rfl
 | true =>
  cases anyN _ i with
  | true => rfl
  | false =>
   simp only [Bool.not_true,cond_false,Sum.elim_inl,S.Qy,letS,GK]
   generalize runN (S.Qo a.Zc i) _ 0 i = z
   generalize a.Zc.getD i default = x
   simp only [Ki,bne]
   cases S.ZD x.ZK 0 32 <;> cases S.ZD x.XF 0 4094 <;> cases S.ZD x.Rr 0 2 <;> simp only [Bool.not_true,Bool.not_false,Bool.or_true,Bool.or_false,Bool.true_or,Bool.false_or,cond_true,cond_false]
   generalize (x.ZK == 0 && _) = b1
   generalize (!(x.ZK == 0) && _) = b2
   cases b1 <;> cases b2 <;> cases x.X0 <;> cases S.ZD x.JW 0 255 <;> cases S.ZD x.K5 1 65535 <;> cases x.JW == 0 <;> cases x.K5 == 0 <;> rfl
theorem Zhf (a : Zf) : S.YH a = S.Q3 a.Z1 := by
 unfold S.YH S.Q3
 rw [YF (g' := S.Qt a.Z1)]
 intro i hi
 unfold S.Yw S.Qt
 have hd : runN (S.QW a.Z1 i) (.inl ()) 0 i = _ := GE (β := Unit ⊕ Int) (fun k => strEq (a.Z1.getD k default).ZJ (a.Z1.getD i default).ZJ) (.inr 4) (.inl ()) i
 have ho : runN (S.Ym a i) (.inl ()) 0 ((a.Z1.getD i default).Z0).length = runN (S.Qs a.Z1 i) (.inl ()) 0 ((a.Z1.getD i default).Z0).length := by
  refine YF fun j hj => ?_
  unfold S.Ym S.Qs S.QB
  generalize ((a.Z1.getD i default).Z0).getD j default = x
  simp only [letS,Zio]
  have e1 : decide (x.Zp.ZK ≤ x.Zbm) = !decide (x.Zbm < x.Zp.ZK) := by simp [← Int.not_lt]
  have e2 : decide (x.Zbm ≤ x.Zbn) = !decide (x.Zbn < x.Zbm) := by simp [← Int.not_lt]
  have e3 : decide (x.Zbn ≤ 32) = !decide (x.Zbn > 32) := by simp [← Int.not_lt]
  rw [e1,e2,e3]
  cases S.YY x.Zp <;> cases decide (x.Zbm < x.Zp.ZK) <;> cases decide (x.Zbn < x.Zbm) <;> cases decide (x.Zbn > 32) <;> rfl
 rw [hd,ho]
 have hx : decide (S.Yy a (a.Z1.getD i default).ZJ < (i : Int)) = _ := ZaO (c := fun j => strEq (a.Z1.getD j default).ZJ (a.Z1.getD i default).ZJ) hi (JF _)
 simp only [letS,S.YZ]
 rw [hx,ZgW]
 cases S.Jr (a.Z1.getD i default).ZJ with
 | false => rfl
 | true =>
  cases anyN _ i with
  | true => rfl
  | false =>
   simp only [Bool.not_true,cond_false,Sum.elim_inl]
   cases ((((a.Z1.getD i default).Z0).length : Int) == 0) with
   | true => rfl
   | false =>
    cases (decide ((((a.Z1.getD i default).Z0).length : Int) > 16)) <;> rfl
theorem Zhg (x : Ul) : S.Q8 x = ((((S.ZD x.UK (-1) 65535 && S.ZD x.WB (-1) 16777215) && S.ZD x.GN (-1) 65535) && S.ZD x.UU (-1) 1000000) && S.ZD x.UV 0 8) := by
 unfold S.Q8
 simp only [letS,GK,Ki]
 cases S.ZD x.UK (-1) 65535 <;> cases S.ZD x.WB (-1) 16777215 <;> cases S.ZD x.GN (-1) 65535 <;> cases S.ZD x.UU (-1) 1000000 <;> cases S.ZD x.UV 0 8 <;> rfl
theorem Zji (a : Zf) : S.Y6 a = S.J1 a := by
 unfold S.Y6 S.J1
 rw [YF (g' := S.Jd a)]
 intro i hi
 unfold S.YK S.Jd
 have hd : runN (S.JK a i) (.inl ()) 0 i = _ := GE (β := Unit ⊕ Int) (fun k => strEq (a.ZR.getD k default).ZJ (a.ZR.getD i default).ZJ) (.inr 4) (.inl ()) i
 have ho : runN (S.Yz a i) (.inl ()) 0 ((a.ZR.getD i default).Z4).length = runN (S.Jc a i) (.inl ()) 0 ((a.ZR.getD i default).Z4).length := by
  refine YF fun j hj => ?_
  unfold S.Yz S.Jc
  generalize ((a.ZR.getD i default).Z4).getD j default = x
  simp only [letS,Ki]
  rw [Zip,Zhg]
  generalize (!strEq x.QE (⟨#[]⟩ : ByteArray) && _ : Bool) = b
  cases b <;> cases S.ZD x.UK (-1) 65535 <;> cases S.ZD x.WB (-1) 16777215 <;> cases S.ZD x.GN (-1) 65535 <;> cases S.ZD x.UU (-1) 1000000 <;> cases S.ZD x.UV 0 8 <;> rfl
 rw [hd,ho]
 have hx : decide (S.Y5 a (a.ZR.getD i default).ZJ < (i : Int)) = _ := ZaO (c := fun j => strEq (a.ZR.getD j default).ZJ (a.ZR.getD i default).ZJ) hi (JF _)
 simp only [letS,S.YZ]
 rw [hx,ZgW]
 cases S.Jr (a.ZR.getD i default).ZJ with
 | false => rfl
 | true =>
  cases anyN _ i with
  | true => rfl
  | false =>
   simp only [Bool.not_true,cond_false,Sum.elim_inl]
   cases ((((a.ZR.getD i default).Z4).length : Int) == 0) with
   | true => rfl
   | false =>
    cases (decide ((((a.ZR.getD i default).Z4).length : Int) > 8)) <;> rfl
theorem ZnQ (x : Ku) : S.JY x = S.Vi x := by
 unfold S.JY S.Vi
 have e (p : Vd) : S.Q0 p = S.Wl p := rfl
 simp only [letS,GK,Ki,e,S.Gm]
 generalize (bitD .and .u32 x.KX.Zy x.KX.U7 != 0) = b1
 generalize (bitD .and .u32 x.KY.Zy x.KY.U7 != 0) = b2
 generalize (x.Yc == 6 || x.Yc == 17) = b3
 generalize ((x.JR.Gv == 0) && _) = b4
 generalize ((x.JS.Gv == 0) && _) = b5
 cases S.ZD x.Yc (-1) 255 <;> cases b1 <;> cases b2 <;> cases S.Wl x.JR <;> cases S.Wl x.JS <;> cases b3 <;> cases b4 <;> cases b5 <;> rfl
theorem Zhh (a : Zf) : S.JZ a = S.Q4 a.Xh := by
 unfold S.JZ S.Q4
 rw [YF (g' := S.Qv a.Xh)]
 intro i hi
 unfold S.Jm S.Qv
 have hd : runN (S.QX a.Xh i) (.inl ()) 0 i = _ := GE (β := Unit ⊕ Int) (fun k => strEq (a.Xh.getD k default).ZJ (a.Xh.getD i default).ZJ) (.inr 4) (.inl ()) i
 have ho : runN (S.QL a i) (.inl ()) 0 ((a.Xh.getD i default).Z0).length = runN (S.Qu a.Xh i) (.inl ()) 0 ((a.Xh.getD i default).Z0).length := by
  refine YF fun j hj => ?_
  unfold S.QL S.Qu
  simp only [letS,ZnQ]
 rw [hd,ho]
 have hx : decide (S.V4 a (a.Xh.getD i default).ZJ < (i : Int)) = _ := ZaO (c := fun j => strEq (a.Xh.getD j default).ZJ (a.Xh.getD i default).ZJ) hi (JF _)
 simp only [letS,S.YZ]
 rw [hx,ZgW]
 cases S.Jr (a.Xh.getD i default).ZJ with
 | false => rfl
 | true =>
  cases anyN _ i with
  | true => rfl
  | false =>
   simp only [Bool.not_true,cond_false,Sum.elim_inl]
   cases ((((a.Xh.getD i default).Z0).length : Int) == 0) with
   | true => rfl
   | false =>
    cases (decide ((((a.Xh.getD i default).Z0).length : Int) > 16)) <;> rfl
theorem ZgY (a : Zf) : S.Vg a = S.QI a := by
 unfold S.Vg S.QI
 rw [YF (g' := S.Qc a)]
 intro i hi
 unfold S.JJ S.Qc S.Yb S.Y3
 generalize a.Xf.getD i default = x
 simp only [letS,Ki,beq_self_eq_true,JF,Bool.true_and,Bool.and_true,bne]
 rw [Zn1,GK,GK]
 cases x.JX == 1 with
 | true =>
  simp only [cond_true]
  cases x.Qj == 0 <;> cases x.Yv == 0 <;> simp only [Bool.not_true,Bool.not_false,Bool.true_and,Bool.false_and,Bool.and_true,Bool.and_false]
 | false =>
  simp only [cond_false]
  cases h2 : x.JX == 2 with
  | true =>
   simp only [cond_true]
   cases x.Gv == 0 <;> cases decide (x.Gv ≤ x.G4) <;> cases decide (wr .u32 (x.G4 - x.Gv) < 8) <;> simp only [Bool.not_true,Bool.not_false,Bool.true_and,Bool.false_and,Bool.and_true,Bool.and_false]
  | false =>
   simp only [cond_false]
   cases x.JX == 3 with
   | true => rfl
   | false => rfl
theorem Zk9 (a : Zf) : S.Jn a = S.Wm a := rfl
theorem Zjj : (default : Int) = 0 := rfl
theorem Zla (x : Int) : decide (x ≥ 0) = !decide (x < 0) := by
 by_cases h : x < 0
 ·have : ¬ x ≥ 0 := by omega
  simp [h,this]
 ·have : x ≥ 0 := by omega
  simp [h,this]
theorem ZnR (x : Yk) : (runT (S.Y7 x) (fun s1 => s1) 0 3 (0) == 1) = (bif x.Ve == 0 then (bif strEq x.Qx (⟨#[]⟩ : ByteArray) then x.Vf else !x.Vf) else (strEq x.Qx (⟨#[]⟩ : ByteArray) && !x.Vf)) := by
 simp only [runT,S.Y7,S.YJ,List.getD_cons_zero,List.getD_cons_succ,bne]
 cases x.Ve == 0 <;> cases strEq x.Qx (⟨#[]⟩ : ByteArray) <;> cases x.Vf <;> rfl
theorem Zhi (a : Zf) (x : Yk) : S.QG a x = ((((S.YY x.Zp && (bif x.Ve == 0 then (bif strEq x.Qx (⟨#[]⟩ : ByteArray) then x.Vf else !x.Vf) else (strEq x.Qx (⟨#[]⟩ : ByteArray) && !x.Vf))) && ((x.Ve == 0) || decide (S.Je a x.Ve < 0))) && S.ZD x.Xd 1 255) && S.ZD x.UK 0 65535) := by
 unfold S.QG
 simp only [letS,Ki,Zjj]
 rw [ZnR,ZhC,Zio,GK,GK]
 generalize (bif x.Ve == 0 then (bif strEq x.Qx (⟨#[]⟩ : ByteArray) then x.Vf else !x.Vf) else (strEq x.Qx (⟨#[]⟩ : ByteArray) && !x.Vf)) = w
 cases S.YY x.Zp <;> cases w <;> cases x.Ve == 0 <;> cases S.ZD x.Xd 1 255 <;> cases S.ZD x.UK 0 65535 <;> simp
theorem Zlb (a : Zf) : S.QM a = S.VW a := by
 unfold S.QM S.VW
 rw [YF (g' := S.J3 a)]
 intro i hi
 have ho : runN (S.YR a i) (.inl ()) 0 i = runN (S.Jx a i) (.inl ()) 0 i := YF fun j hj => by
  unfold S.YR S.Jx
  simp only [GM _ hj]
 unfold S.Qm S.J3 S.JB S.JA S.Jz S.Jy S.YE
 rw [ho]
 generalize runN (S.Jx a i) (.inl ()) 0 i = z
 generalize a.Zr.getD i default = x
 have er : S.QG a (⟨x.Zp,x.Ve,x.Qx,x.Vf,x.Xd,x.UK⟩ : Yk) = _ := Zhi a x
 simp only [letS,Ki,Zjj]
 rw [er,Zjh]
 simp only [Zla,bne]
 have w1 : wr .i64 1 = 1 := rfl
 have w2 : wr .i64 2 = 2 := rfl
 have w3 : wr .i64 3 = 3 := rfl
 cases x.Ve == 0 <;> cases strEq x.Qx (⟨#[]⟩ : ByteArray) <;> cases x.Vf <;> cases S.YY x.Zp <;> cases S.ZD x.Xd 1 255 <;> cases S.ZD x.UK 0 65535 <;> simp [w1,w2,w3]
theorem ZgZ (a : Zf) (l : List Yi) (into least most types : Int) (ht : types = bif into == 3 then 2 else 0) : S.YI a l into least most types = S.Yf a l into least most := by
 unfold S.YI S.Yf
 rw [YF (g' := S.YC a l into least most)]
 intro i hi
 have ho : runN (S.Y8 l i) (.inl ()) 0 i = runN (S.Yo l i) (.inl ()) 0 i := YF fun j hj => by
  unfold S.Y8 S.Yo
  simp only [GM _ hj]
 unfold S.Qz S.YC
 rw [ho]
 generalize runN (S.Yo l i) (.inl ()) 0 i = z
 generalize l.getD i default = x
 have ew : S.ZZ x.Ke (if types < 1 then types else 1) types = !((((into == 3) && (x.Ke != 1)) && (x.Ke != 2)) || ((into != 3) && (x.Ke != 0))) := by
  subst ht
  unfold S.ZZ
  rw [Bool.eq_iff_iff]
  cases h : into == 3 <;> simp [bne,h] <;> omega
 simp only [letS,Ki]
 rw [ZjV,ew,GK,GK,GK]
 generalize ((((into == 3) && (x.Ke != 1)) && (x.Ke != 2)) || ((into != 3) && (x.Ke != 0))) = t
 cases S.ZD x.WT 1 5 <;> cases x.WT == into <;> cases S.ZD x.Kv least most <;> cases S.ZD x.UK 0 65535 <;> cases t <;> rfl
theorem Zjk (a : Zf) : S.Y9 a = S.J4 a := by
 unfold S.Y9 S.J4
 rw [ZgZ a a.X0.Zs 3 0 16777215 2 rfl,YF (g' := S.Jg a)]
 ·rfl
 intro i hi
 have ho : runN (S.YA a i) (.inl ()) 0 i = runN (S.Jf a i) (.inl ()) 0 i := YF fun j hj => by
  unfold S.YA S.Jf
  simp only [GM _ hj,ZgX]
 unfold S.YL S.Jg
 rw [ho]
 rfl
theorem ZjW (a : Zf) : S.Yn a = S.Vp a := by
 unfold S.Yn S.Vp
 rw [ZgZ a a.Ya.Zs 4 1 15 0 rfl]
 rfl
theorem Zjl (a : Zf) : S.Qa a = S.Vj a := by
 unfold S.Qa S.Vj
 rw [YF (g' := S.Ji a)]
 intro i hi
 have ho : runN (S.YB a i) (.inl ()) 0 i = runN (S.Jh a i) (.inl ()) 0 i := YF fun j hj => by
  unfold S.YB S.Jh
  simp only [GM _ hj]
 unfold S.YM S.Ji
 rw [ho]
 rfl
theorem Zlc (a : Xg) : S.QN a = S.Jj a := by
 unfold S.QN S.Jj
 rw [YF (g := S.YS a) (g' := S.Qd a),YF (g := S.YU a) (g' := S.Qf a),YF (g := S.YW a) (g' := S.Qh a)]
 ·intro i hi
  have ho : runN (S.YV a i) (.inl ()) 0 i = runN (S.Qg a i) (.inl ()) 0 i := YF fun j hj => by
   unfold S.YV S.Qg
   simp only [GM _ hj]
  unfold S.YW S.Qh
  rw [ho]
  rfl
 ·intro i hi
  have ho : runN (S.YT a i) (.inl ()) 0 i = runN (S.Qe a i) (.inl ()) 0 i := YF fun j hj => by
   unfold S.YT S.Qe
   simp only [GM _ hj]
  unfold S.YU S.Qf
  rw [ho]
  rfl
 ·intro i hi
  have hd : runN (S.QC a i) (.inl ()) 0 i = _ := GE (β := Unit ⊕ Int) (fun k => ((a.Zt.getD k default).Zy == (a.Zt.getD i default).Zy) && (((a.Zt.getD k default).ZK == (a.Zt.getD i default).ZK) && true)) (.inr 4) (.inl ()) i
  have hc : S.Xz ((a.Zt.drop 0).take (i - 0)) (a.Zt.getD i default) = anyN (fun k => ((a.Zt.getD k default).Zy == (a.Zt.getD i default).Zy) && (((a.Zt.getD k default).ZK == (a.Zt.getD i default).ZK) && true)) i := by
   have hl : ((a.Zt.drop 0).take (i - 0)).length = i := by simp; omega
   have h1 := ZlZ (fun k => ((a.Zt.getD i default).Zy == (((a.Zt.drop 0).take (i - 0)).getD k default).Zy) && (((a.Zt.getD i default).ZK == (((a.Zt.drop 0).take (i - 0)).getD k default).ZK) && true)) i
   refine Eq.trans ?_ (h1.trans (Zgq fun j hj => ?_))
   ·unfold S.Xz S.XS
    rw [hl]
    rfl
   ·rw [GM _ hj,BEq.comm (a := (a.Zt.getD i default).Zy),BEq.comm (a := (a.Zt.getD i default).ZK)]
  unfold S.YS S.Qd
  rw [hd,hc]
  simp only [letS,Zio]
  cases S.YY (a.Zt.getD i default) with
  | false => rfl
  | true =>
   cases anyN _ i <;> rfl
theorem Ziq (a : Zf) (hs : a.ZW.Zk.length ≤ 100 ∧ a.ZW.Zt.length ≤ 100 ∧ a.ZW.Zq.length ≤ 100 ∧ a.ZW.Zm.length ≤ 100 ∧ a.ZW.Zs.length ≤ 100) : S.YX a = S.JC a := by
 unfold S.YX S.JC
 rw [Zjl,Zlc,ZgZ a a.ZW.Zs 5 0 16777215 0 rfl]
 have w (x : Int) (h1 : 0 ≤ x) (h2 : x ≤ 1000) : wr .i64 x = x := by unfold wr; exact IntWalk.i64_in _ (by omega)
 rw [w ((a.ZW.Zk.length : Int) + (a.ZW.Zt.length : Int)) (by omega) (by omega)]
 rw [w ((a.ZW.Zk.length : Int) + (a.ZW.Zt.length : Int) + (a.ZW.Zq.length : Int)) (by omega) (by omega)]
 rw [w ((a.ZW.Zk.length : Int) + (a.ZW.Zt.length : Int) + (a.ZW.Zq.length : Int) + (a.ZW.Zm.length : Int)) (by omega) (by omega)]
 rw [w ((a.ZW.Zk.length : Int) + (a.ZW.Zt.length : Int) + (a.ZW.Zq.length : Int) + (a.ZW.Zm.length : Int) + (a.ZW.Zs.length : Int)) (by omega) (by omega)]
 have e : (decide ((((a.ZW.Zk.length : Int) + (a.ZW.Zt.length : Int) + (a.ZW.Zq.length : Int)) + (a.ZW.Zm.length : Int)) + (a.ZW.Zs.length : Int) > 0)) =
   ((((decide ((a.ZW.Zk.length : Int) > 0) || decide ((a.ZW.Zt.length : Int) > 0)) || decide ((a.ZW.Zq.length : Int) > 0)) || decide ((a.ZW.Zm.length : Int) > 0)) || decide ((a.ZW.Zs.length : Int) > 0)) := by
  simp only [← Bool.decide_or]
  congr 1
  simp only [eq_iff_iff]
  omega
 rw [e]
 simp only [Bool.or_assoc]
 rfl
theorem Zhj (a : Zf) (hs : a.ZW.Zk.length ≤ 100 ∧ a.ZW.Zt.length ≤ 100 ∧ a.ZW.Zq.length ≤ 100 ∧ a.ZW.Zm.length ≤ 100 ∧ a.ZW.Zs.length ≤ 100) : S.Q9 a = S.Q5 a := by
 unfold S.Q9 S.Q5
 simp only [letS]
 rw [ZgW,GK,ZeO,Zhf,Zji,Zhh,ZgY,Zk9,Zlb,Zjk,ZjW,Ziq a hs]
 have h := Zl0 [S.Jw a.Zc,S.Q3 a.Z1,S.J1 a,S.Q4 a.Xh,S.QI a,S.Wm a,S.VW a,S.J4 a,S.Vp a,S.JC a]
 cases S.Jr a.ZJ with
 | false => rfl
 | true =>
  cases S.ZD a.GA 0 65535 with
  | false => rfl
  | true => exact h.symm
end Nv
