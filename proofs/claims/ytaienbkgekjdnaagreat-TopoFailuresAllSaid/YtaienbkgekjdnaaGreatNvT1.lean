/- Total forms of the mirrors. -/
import Derived.Test.YtaienbkgekjdnaaGreatNvD1
import Derived.Test.YtaienbkgekjdnaaGreatNvLibB
import Derived.Test.YtaienbkgekjdnaaGreatNvQ0
set_option maxRecDepth 100000
namespace Nv
open Go
def Xp (x:Zx):Prop:=(x.ZH.size≤maxLen)∧(x.VE.size≤maxLen)∧(x.YH.size≤maxLen)
theorem Xp.ZH {x:Zx} (h:Xp x):x.ZH.size≤maxLen:=h.1
theorem Xp.VE {x:Zx} (h:Xp x):x.VE.size≤maxLen:=h.2.1
theorem Xp.YH {x:Zx} (h:Xp x):x.YH.size≤maxLen:=h.2.2
theorem Xp.dflt:Xp default:=⟨(Nat.zero_le _),(Nat.zero_le _),(Nat.zero_le _)⟩
def X7 (x:ZD):Prop:=(x.ZH.size≤maxLen)∧(x.Xv.length≤maxLen)
theorem X7.ZH {x:ZD} (h:X7 x):x.ZH.size≤maxLen:=h.1
theorem X7.Xv {x:ZD} (h:X7 x):x.Xv.length≤maxLen:=h.2
theorem X7.dflt:X7 default:=⟨(Nat.zero_le _),(Nat.zero_le _)⟩
def WX (x:Ub):Prop:=(x.QX.size≤maxLen)
theorem WX.QX {x:Ub} (h:WX x):x.QX.size≤maxLen:=h
theorem WX.dflt:WX default:=(Nat.zero_le _)
def Ym (x:Xw):Prop:=(x.ZH.size≤maxLen)∧(LL WX x.Xj)
theorem Ym.ZH {x:Xw} (h:Ym x):x.ZH.size≤maxLen:=h.1
theorem Ym.Xj {x:Xw} (h:Ym x):LL WX x.Xj:=h.2
theorem Ym.dflt:Ym default:=⟨(Nat.zero_le _),⟨Nat.zero_le _,fun _ h=>absurd h List.not_mem_nil⟩⟩
def Wz (x:V2):Prop:=(x.ZH.size≤maxLen)∧(x.Xv.length≤maxLen)
theorem Wz.ZH {x:V2} (h:Wz x):x.ZH.size≤maxLen:=h.1
theorem Wz.Xv {x:V2} (h:Wz x):x.Xv.length≤maxLen:=h.2
theorem Wz.dflt:Wz default:=⟨(Nat.zero_le _),(Nat.zero_le _)⟩
def JD (x:YX):Prop:=(x.QX.size≤maxLen)
theorem JD.QX {x:YX} (h:JD x):x.QX.size≤maxLen:=h
theorem JD.dflt:JD default:=(Nat.zero_le _)
def Ji (x:Yh):Prop:=(x.Jj.size≤maxLen)
theorem Ji.Jj {x:Yh} (h:Ji x):x.Jj.size≤maxLen:=h
theorem Ji.dflt:Ji default:=(Nat.zero_le _)
def J3 (x:YB):Prop:=(x.RO.size≤maxLen)
theorem J3.RO {x:YB} (h:J3 x):x.RO.size≤maxLen:=h
theorem J3.dflt:J3 default:=(Nat.zero_le _)
def Jr (x:Wv):Prop:=(x.ZF.length≤maxLen)∧(LL J3 x.Zs)
theorem Jr.ZF {x:Wv} (h:Jr x):x.ZF.length≤maxLen:=h.1
theorem Jr.Zs {x:Wv} (h:Jr x):LL J3 x.Zs:=h.2
theorem Jr.dflt:Jr default:=⟨(Nat.zero_le _),⟨Nat.zero_le _,fun _ h=>absurd h List.not_mem_nil⟩⟩
def Yf (x:QA):Prop:=(x.VE.size≤maxLen)∧(x.YH.size≤maxLen)∧(LL J3 x.Zs)
theorem Yf.VE {x:QA} (h:Yf x):x.VE.size≤maxLen:=h.1
theorem Yf.YH {x:QA} (h:Yf x):x.YH.size≤maxLen:=h.2.1
theorem Yf.Zs {x:QA} (h:Yf x):LL J3 x.Zs:=h.2.2
theorem Yf.dflt:Yf default:=⟨(Nat.zero_le _),(Nat.zero_le _),⟨Nat.zero_le _,fun _ h=>absurd h List.not_mem_nil⟩⟩
def JL (x:VH):Prop:=(x.VE.size≤maxLen)∧(x.YH.size≤maxLen)
theorem JL.VE {x:VH} (h:JL x):x.VE.size≤maxLen:=h.1
theorem JL.YH {x:VH} (h:JL x):x.YH.size≤maxLen:=h.2
theorem JL.dflt:JL default:=⟨(Nat.zero_le _),(Nat.zero_le _)⟩
def Z5 (x:Xb):Prop:=(LL JL x.Zl)∧(x.Zt.length≤maxLen)∧(x.Zq.length≤maxLen)∧(x.Zn.length≤maxLen)∧(LL J3 x.Zs)
theorem Z5.Zl {x:Xb} (h:Z5 x):LL JL x.Zl:=h.1
theorem Z5.Zt {x:Xb} (h:Z5 x):x.Zt.length≤maxLen:=h.2.1
theorem Z5.Zq {x:Xb} (h:Z5 x):x.Zq.length≤maxLen:=h.2.2.1
theorem Z5.Zn {x:Xb} (h:Z5 x):x.Zn.length≤maxLen:=h.2.2.2.1
theorem Z5.Zs {x:Xb} (h:Z5 x):LL J3 x.Zs:=h.2.2.2.2
theorem Z5.dflt:Z5 default:=⟨⟨Nat.zero_le _,fun _ h=>absurd h List.not_mem_nil⟩,(Nat.zero_le _),(Nat.zero_le _),(Nat.zero_le _),⟨Nat.zero_le _,fun _ h=>absurd h List.not_mem_nil⟩⟩
def Zi (x:Zf):Prop:=(x.ZH.size≤maxLen)∧(LL Xp x.Zc)∧(LL X7 x.Xi)∧(LL Ym x.Z9)∧(LL Wz x.XK)∧(LL JD x.Xf)∧(LL Ji x.Zr)∧(Jr x.X5)∧(Yf x.Ye)∧(Z5 x.Z8)
theorem Zi.ZH {x:Zf} (h:Zi x):x.ZH.size≤maxLen:=h.1
theorem Zi.Zc {x:Zf} (h:Zi x):LL Xp x.Zc:=h.2.1
theorem Zi.Xi {x:Zf} (h:Zi x):LL X7 x.Xi:=h.2.2.1
theorem Zi.Z9 {x:Zf} (h:Zi x):LL Ym x.Z9:=h.2.2.2.1
theorem Zi.XK {x:Zf} (h:Zi x):LL Wz x.XK:=h.2.2.2.2.1
theorem Zi.Xf {x:Zf} (h:Zi x):LL JD x.Xf:=h.2.2.2.2.2.1
theorem Zi.Zr {x:Zf} (h:Zi x):LL Ji x.Zr:=h.2.2.2.2.2.2.1
theorem Zi.X5 {x:Zf} (h:Zi x):Jr x.X5:=h.2.2.2.2.2.2.2.1
theorem Zi.Ye {x:Zf} (h:Zi x):Yf x.Ye:=h.2.2.2.2.2.2.2.2.1
theorem Zi.Z8 {x:Zf} (h:Zi x):Z5 x.Z8:=h.2.2.2.2.2.2.2.2.2
theorem Zi.dflt:Zi default:=⟨(Nat.zero_le _),⟨Nat.zero_le _,fun _ h=>absurd h List.not_mem_nil⟩,⟨Nat.zero_le _,fun _ h=>absurd h List.not_mem_nil⟩,⟨Nat.zero_le _,fun _ h=>absurd h List.not_mem_nil⟩,⟨Nat.zero_le _,fun _ h=>absurd h List.not_mem_nil⟩,⟨Nat.zero_le _,fun _ h=>absurd h List.not_mem_nil⟩,⟨Nat.zero_le _,fun _ h=>absurd h List.not_mem_nil⟩,Jr.dflt,Yf.dflt,Z5.dflt⟩
def Yy (x:ZP):Prop:=(LL Zi x.Zd)
theorem Yy.Zd {x:ZP} (h:Yy x):LL Zi x.Zd:=h
noncomputable def S.WB (a0:Zf) (i1:Nat):Option (Unit ⊕ Bool) :=
 bif decide ((((a0.Xi.getD i1 default).Xv).length:Int) > 20) then (some (.inr false)) else none
theorem Ze4 (a0:Zf) (ha0:Zi a0) (i0:Nat):loopM (M.WB a0) (i0:Int)=some (runN (S.WB a0) (.inl ()) i0 (a0.Xi.length - i0)):=by
 have hM:=Zo
 have hni1:a0.Xi.length≤maxLen:=(Zi.Xi ha0).1
 refine Z6 (n:=a0.Xi.length) (fun i1 hi1=>?_) (fun m hm=>?_) i0
 ·unfold M.WB S.WB
  try simp only [Int.toNat_natCast]
  refine X2 (dt (by omega)) ?_
  refine YD (Zw (dt (by omega)) (Zw (dt (by omega)) XP)) ?_
  refine XX (fun hb2=>?_) (fun hb2=>?_)
  ·exact XE
  ·exact JZ (by omega)
 ·unfold M.WB
  try simp only [Int.toNat_natCast]
  exact X3 (decide_eq_false (by omega)) rfl
noncomputable def S.WC (a0:Zf) (i6:Nat):Option (Unit ⊕ Bool) :=
 bif decide ((((a0.Z9.getD i6 default).Xj).length:Int) > 12) then (some (.inr false)) else none
theorem Ze5 (a0:Zf) (ha0:Zi a0) (i0:Nat):loopM (M.WC a0) (i0:Int)=some (runN (S.WC a0) (.inl ()) i0 (a0.Z9.length - i0)):=by
 have hM:=Zo
 have hni6:a0.Z9.length≤maxLen:=(Zi.Z9 ha0).1
 refine Z6 (n:=a0.Z9.length) (fun i6 hi6=>?_) (fun m hm=>?_) i0
 ·unfold M.WC S.WC
  try simp only [Int.toNat_natCast]
  refine X2 (dt (by omega)) ?_
  refine YD (Zw (dt (by omega)) (Zw (dt (by omega)) XP)) ?_
  refine XX (fun hb3=>?_) (fun hb3=>?_)
  ·exact XE
  ·exact JZ (by omega)
 ·unfold M.WC
  try simp only [Int.toNat_natCast]
  exact X3 (decide_eq_false (by omega)) rfl
noncomputable def S.WD (a0:Zf) (i11:Nat):Option (Unit ⊕ Bool) :=
 bif decide ((((a0.XK.getD i11 default).Xv).length:Int) > 20) then (some (.inr false)) else none
theorem Ze6 (a0:Zf) (ha0:Zi a0) (i0:Nat):loopM (M.WD a0) (i0:Int)=some (runN (S.WD a0) (.inl ()) i0 (a0.XK.length - i0)):=by
 have hM:=Zo
 have hni11:a0.XK.length≤maxLen:=(Zi.XK ha0).1
 refine Z6 (n:=a0.XK.length) (fun i11 hi11=>?_) (fun m hm=>?_) i0
 ·unfold M.WD S.WD
  try simp only [Int.toNat_natCast]
  refine X2 (dt (by omega)) ?_
  refine YD (Zw (dt (by omega)) (Zw (dt (by omega)) XP)) ?_
  refine XX (fun hb4=>?_) (fun hb4=>?_)
  ·exact XE
  ·exact JZ (by omega)
 ·unfold M.WD
  try simp only [Int.toNat_natCast]
  exact X3 (decide_eq_false (by omega)) rfl
noncomputable def S.VW (a0:Zf):Bool :=
 bif (((((((((((((decide ((a0.Zc.length:Int) > 12))||(decide ((a0.Xi.length:Int) > 12)))||(decide ((a0.Z9.length:Int) > 12)))||(decide ((a0.XK.length:Int) > 12)))||(decide ((a0.Xf.length:Int) > 12)))||(decide ((a0.Zr.length:Int) > 20)))||(decide ((a0.X5.ZF.length:Int) > 8)))||(decide ((a0.X5.Zs.length:Int) > 8)))||(decide ((a0.Ye.Zs.length:Int) > 8)))||(decide ((a0.Z8.Zs.length:Int) > 8)))||(decide ((a0.Z8.Zl.length:Int) > 12)))||(decide ((a0.Z8.Zt.length:Int) > 12)))||(decide ((a0.Z8.Zq.length:Int) > 12)))||(decide ((a0.Z8.Zn.length:Int) > 12)) then false else (letS (runN (S.WB a0) (.inl ()) 0 a0.Xi.length) (fun y3=>Sum.elim (fun _=>letS (runN (S.WC a0) (.inl ()) 0 a0.Z9.length) (fun y8=>Sum.elim (fun _=>letS (runN (S.WD a0) (.inl ()) 0 a0.XK.length) (fun y13=>Sum.elim (fun _=>true) (fun y15=>y15) y13)) (fun y10=>y10) y8)) (fun y5=>y5) y3))
theorem Zhz (a0:Zf) (ha0:Zi a0):M.VW a0=some (S.VW a0):=by
 have hM:=Zo
 unfold M.VW S.VW
 refine Jp (fun hb1=>?_) (fun hb1=>?_)
 ·rfl
 ·refine Z3 (Ze4 a0 ha0 0) (fun y3 hey3=>?_)
  refine QG (fun _ hl=>?_) (fun y5 hly5=>?_)
  ·refine Z3 (Ze5 a0 ha0 0) (fun y8 hey8=>?_)
   refine QG (fun _ hl=>?_) (fun y10 hly10=>?_)
   ·refine Z3 (Ze6 a0 ha0 0) (fun y13 hey13=>?_)
    refine QG (fun _ hl=>?_) (fun y15 hly15=>?_)
    ·rfl
    ·rfl
   ·rfl
  ·rfl
noncomputable def S.Y1 (a0:ZP) (i1:Nat):Option (Unit ⊕ Bool) :=
 letS (S.VW (a0.Zd.getD i1 default)) (fun r3=>bif !r3 then (some (.inr false)) else none)
theorem Zey (a0:ZP) (ha0:Yy a0) (i0:Nat):loopM (M.Y1 a0) (i0:Int)=some (runN (S.Y1 a0) (.inl ()) i0 (a0.Zd.length - i0)):=by
 have hM:=Zo
 have hni1:a0.Zd.length≤maxLen:=(Yy.Zd ha0).1
 refine Z6 (n:=a0.Zd.length) (fun i1 hi1=>?_) (fun m hm=>?_) i0
 ·unfold M.Y1 S.Y1
  try simp only [Int.toNat_natCast]
  refine X2 (dt (by omega)) ?_
  refine ZU (Zhz (a0.Zd.getD i1 default) (LL.getD (Yy.Zd ha0) Zi.dflt i1)) (fun r3 her3=>?_)
  refine YD (Zw (dt (by omega)) (Zw (dt (by omega)) XP)) ?_
  refine XX (fun hb2=>?_) (fun hb2=>?_)
  ·exact XE
  ·exact JZ (by omega)
 ·unfold M.Y1
  try simp only [Int.toNat_natCast]
  exact X3 (decide_eq_false (by omega)) rfl
noncomputable def S.VA (a0:ZP):Bool :=
 bif decide ((a0.Zd.length:Int) > 9) then false else (letS (runN (S.Y1 a0) (.inl ()) 0 a0.Zd.length) (fun y4=>Sum.elim (fun _=>true) (fun y6=>y6) y4))
theorem Zgy (a0:ZP) (ha0:Yy a0):M.VA a0=some (S.VA a0):=by
 have hM:=Zo
 unfold M.VA S.VA
 refine Jp (fun hb1=>?_) (fun hb1=>?_)
 ·rfl
 ·refine Z3 (Zey a0 ha0 0) (fun y4 hey4=>?_)
  refine QG (fun _ hl=>?_) (fun y6 hly6=>?_)
  ·rfl
  ·rfl
noncomputable def S.VB (a0:Int):Bool :=
 ((decide (a0 ≥ 97))&&(decide (a0≤122)))||((decide (a0 ≥ 65))&&(decide (a0≤90)))
theorem ZcU (a0:Int) :M.VB a0=some (S.VB a0):=by
 have hM:=Zo
 unfold M.VB S.VB
 rfl
noncomputable def S.Wi (a0:ByteArray) (i2:Nat):Option (Unit ⊕ Bool) :=
 letS (S.VB (byteAt a0 (i2:Int))) (fun r4=>bif (((((!r4)&&(!((decide ((byteAt a0 (i2:Int)) ≥ 48))&&(decide ((byteAt a0 (i2:Int))≤57)))))&&((byteAt a0 (i2:Int)) != 45))&&((byteAt a0 (i2:Int)) != 95))&&((byteAt a0 (i2:Int)) != 47))&&((byteAt a0 (i2:Int)) != 46) then (some (.inr false)) else none)
theorem Zgc (a0:ByteArray) (ha0:a0.size≤maxLen) (i0:Nat):loopM (M.Wi a0) (i0:Int)=some (runN (S.Wi a0) (.inl ()) i0 (a0.size - i0)):=by
 have hM:=Zo
 have hni2:a0.size≤maxLen:=ha0
 refine Z6 (n:=a0.size) (fun i2 hi2=>?_) (fun m hm=>?_) i0
 ·unfold M.Wi S.Wi
  try simp only [Int.toNat_natCast]
  refine X2 (dt (by omega)) ?_
  refine YD (Zw (dt (by omega)) (Zw (dt (by omega)) XP)) ?_
  refine ZU (ZcU (byteAt a0 (i2:Int))) (fun r4 her4=>?_)
  refine XX (fun hb2=>?_) (fun hb2=>?_)
  ·exact XE
  ·exact JZ (by omega)
 ·unfold M.Wi
  try simp only [Int.toNat_natCast]
  exact X3 (decide_eq_false (by omega)) rfl
noncomputable def S.Jo (a0:ByteArray):Bool :=
 letS (bif (!((decide ((a0.size:Int) < 1))||(decide ((a0.size:Int) > 15)))) then S.VB (byteAt a0 0) else default) (fun r1=>bif ((decide ((a0.size:Int) < 1))||(decide ((a0.size:Int) > 15)))||(!r1) then false else (letS (runN (S.Wi a0) (.inl ()) 1 (a0.size - 1)) (fun y5=>Sum.elim (fun _=>true) (fun y7=>y7) y5)))
theorem KA (a0:ByteArray) (ha0:a0.size≤maxLen):M.Jo a0=some (S.Jo a0):=by
 have hM:=Zo
 unfold M.Jo S.Jo
 refine Z3 (JA fun hg=>(ZcU (byteAt a0 0))) (fun r1 her1=>?_)
 refine YD (Zw (JY fun hg=>(dt (by first | omega | (simp; omega) | (simp at *; omega)))) (Zw (JY fun hg=>(dt (by first | omega | (simp; omega) | (simp at *; omega)))) XP)) ?_
 refine Jp (fun hb1=>?_) (fun hb1=>?_)
 ·rfl
 ·refine Z3 (Zgc a0 ha0 1) (fun y5 hey5=>?_)
  refine QG (fun _ hl=>?_) (fun y7 hly7=>?_)
  ·rfl
  ·rfl
noncomputable def S.ZC (a0:Int) (a1:Int) (a2:Int):Bool :=
 (decide (a1≤a0))&&(decide (a0≤a2))
theorem Yd (a0:Int) (a1:Int) (a2:Int) :M.ZC a0 a1 a2=some (S.ZC a0 a1 a2):=by
 have hM:=Zo
 unfold M.ZC S.ZC
 rfl
noncomputable def S.Q6 (a0:Int) (a1:Int):ZO :=
 letS (S.VI (if 0 > (if 32 < a1 then 32 else a1) then 0 else (if 32 < a1 then 32 else a1))) (fun r1=>(⟨bitD .and .u32 a0 r1,if 0 > (if 32 < a1 then 32 else a1) then 0 else (if 32 < a1 then 32 else a1)⟩:ZO))
theorem Rf (a0:Int) (a1:Int) :M.Q6 a0 a1=some (S.Q6 a0 a1):=by
 have hM:=Zo
 unfold M.Q6 S.Q6
 refine Z3 (ZbU (if 0 > (if 32 < a1 then 32 else a1) then 0 else (if 32 < a1 then 32 else a1))) (fun r1 her1=>?_)
 rfl
noncomputable def S.WE (a0:ZO) (a1:Int):Bool :=
 letS (S.VI a0.ZM) (fun r1=>(bitD .and .u32 a1 r1)==a0.ZA)
theorem Ze7 (a0:ZO) (a1:Int) :M.WE a0 a1=some (S.WE a0 a1):=by
 have hM:=Zo
 unfold M.WE S.WE
 refine Z3 (ZbU a0.ZM) (fun r1 her1=>?_)
 rfl
noncomputable def S.WI (a0:ZO) (a1:ZO):Bool :=
 letS (bif (decide (a0.ZM≤a1.ZM)) then S.WE a0 a1.ZA else default) (fun r1=>(decide (a0.ZM≤a1.ZM))&&r1)
theorem ZcV (a0:ZO) (a1:ZO) :M.WI a0 a1=some (S.WI a0 a1):=by
 have hM:=Zo
 unfold M.WI S.WI
 refine Z3 (JA fun hg=>(Ze7 a0 a1.ZA)) (fun r1 her1=>?_)
 rfl
noncomputable def S.Vi (a0:ZO) (a1:ZO):Bool :=
 letS (S.WI a0 a1) (fun r1=>letS (bif (!r1) then S.WI a1 a0 else default) (fun r2=>r1||r2))
theorem Za2 (a0:ZO) (a1:ZO) :M.Vi a0 a1=some (S.Vi a0 a1):=by
 have hM:=Zo
 unfold M.Vi S.Vi
 refine Z3 (ZcV a0 a1) (fun r1 her1=>?_)
 refine Z3 (JA fun hg=>(ZcV a1 a0)) (fun r2 her2=>?_)
 rfl
noncomputable def S.Jk (a0:List Zx) (i1:Nat) (i4:Nat):Option (Unit ⊕ Int) :=
 bif strEq ((a0.getD i4 default).ZH) ((a0.getD i1 default).ZH) then (some (.inr 4)) else none
theorem ZbV (a0:List Zx) (i1:Nat) (ha0:LL Xp a0) (hi1:i1 < a0.length) (i0:Nat):loopM (M.Jk a0 (i1:Int)) (i0:Int)=some (runN (S.Jk a0 i1) (.inl ()) i0 (i1 - i0)):=by
 have hM:=Zo
 have hni1:a0.length≤maxLen:=ha0.1
 have hni4:i1≤maxLen:=(by omega)
 refine Z6 (n:=i1) (fun i4 hi4=>?_) (fun m hm=>?_) i0
 ·unfold M.Jk S.Jk
  try simp only [Int.toNat_natCast]
  refine X2 (dt (by omega)) ?_
  refine YD (Zw (dt (by omega)) (Zw (dt (by omega)) XP)) ?_
  refine XX (fun hb3=>?_) (fun hb3=>?_)
  ·exact XE
  ·exact JZ (by omega)
 ·unfold M.Jk
  try simp only [Int.toNat_natCast]
  exact X3 (decide_eq_false (by omega)) rfl
noncomputable def S.Qk (a0:List Zx) (i1:Nat) (i14:Nat):Option (Unit ⊕ Int) :=
 letS (bif ((((a0.getD i1 default).ZM) != 0)&&(((a0.getD i14 default).ZM) != 0)) then S.Q6 ((a0.getD i1 default).ZA) ((a0.getD i1 default).ZM) else default) (fun r16=>letS (bif ((((a0.getD i1 default).ZM) != 0)&&(((a0.getD i14 default).ZM) != 0)) then S.Q6 ((a0.getD i14 default).ZA) ((a0.getD i14 default).ZM) else default) (fun r17=>letS (bif ((((a0.getD i1 default).ZM) != 0)&&(((a0.getD i14 default).ZM) != 0)) then S.Vi r16 r17 else default) (fun r18=>bif ((((a0.getD i1 default).ZM) != 0)&&(((a0.getD i14 default).ZM) != 0))&&r18 then (some (.inr 6)) else none)))
theorem ZbW (a0:List Zx) (i1:Nat) (ha0:LL Xp a0) (hi1:i1 < a0.length) (i0:Nat):loopM (M.Qk a0 (i1:Int)) (i0:Int)=some (runN (S.Qk a0 i1) (.inl ()) i0 (i1 - i0)):=by
 have hM:=Zo
 have hni1:a0.length≤maxLen:=ha0.1
 have hni14:i1≤maxLen:=(by omega)
 refine Z6 (n:=i1) (fun i14 hi14=>?_) (fun m hm=>?_) i0
 ·unfold M.Qk S.Qk
  try simp only [Int.toNat_natCast]
  refine X2 (dt (by omega)) ?_
  refine ZU (JA fun hg=>(Rf ((a0.getD i1 default).ZA) ((a0.getD i1 default).ZM))) (fun r16 her16=>?_)
  refine ZU (JA fun hg=>(Rf ((a0.getD i14 default).ZA) ((a0.getD i14 default).ZM))) (fun r17 her17=>?_)
  refine ZU (JA fun hg=>(Za2 r16 r17)) (fun r18 her18=>?_)
  refine YD (Zw (JY fun hg=>(dt (by first | omega | (simp; omega) | (simp at *; omega)))) (Zw (JY fun hg=>(dt (by first | omega | (simp; omega) | (simp at *; omega)))) (Zw (JY fun hg=>(dt (by first | omega | (simp; omega) | (simp at *; omega)))) (Zw (JY fun hg=>(dt (by first | omega | (simp; omega) | (simp at *; omega)))) (Zw (JY fun hg=>(dt (by first | omega | (simp; omega) | (simp at *; omega)))) (Zw (JY fun hg=>(dt (by first | omega | (simp; omega) | (simp at *; omega)))) XP)))))) ?_
  refine XX (fun hb7=>?_) (fun hb7=>?_)
  ·exact XE
  ·exact JZ (by omega)
 ·unfold M.Qk
  try simp only [Int.toNat_natCast]
  exact X3 (decide_eq_false (by omega)) rfl
noncomputable def S.QH (a0:List Zx) (i1:Nat):Option (Unit ⊕ Int) :=
 letS (S.Jo ((a0.getD i1 default).ZH)) (fun r3=>bif !r3 then (some (.inr 3)) else (letS (runN (S.Jk a0 i1) (.inl ()) 0 i1) (fun y6=>Sum.elim (fun _=>letS (S.ZC ((a0.getD i1 default).ZM) 0 32) (fun r9=>letS (bif (!(!r9)) then S.ZC ((a0.getD i1 default).XI) 0 4094 else default) (fun r10=>letS (bif (!((!r9)||(!r10))) then S.ZC ((a0.getD i1 default).R6) 0 2 else default) (fun r11=>bif ((!r9)||(!r10))||(!r11) then (some (.inr 1)) else (bif ((((a0.getD i1 default).ZM)==0)&&(((((((((a0.getD i1 default).ZA) != 0)||(((a0.getD i1 default).XI) != 0))||(((a0.getD i1 default).R6) != 0))||((a0.getD i1 default).X5))||((a0.getD i1 default).Ye))||(!strEq ((a0.getD i1 default).VE) (⟨#[]⟩:ByteArray)))||(!strEq ((a0.getD i1 default).YH) (⟨#[]⟩:ByteArray))))||((((a0.getD i1 default).ZM) != 0)&&(((a0.getD i1 default).ZA)==0)) then (some (.inr 1)) else (letS (bif ((a0.getD i1 default).X5) then S.ZC ((a0.getD i1 default).Vb) 0 255 else default) (fun r12=>letS (bif (((a0.getD i1 default).X5) && !(!r12)) then S.ZC ((a0.getD i1 default).RC) 1 65535 else default) (fun r13=>bif (((a0.getD i1 default).X5)&&((!r12)||(!r13)))||((!((a0.getD i1 default).X5))&&((((a0.getD i1 default).Vb) != 0)||(((a0.getD i1 default).RC) != 0))) then (some (.inr 1)) else (letS (runN (S.Qk a0 i1) (.inl ()) 0 i1) (fun y19=>Sum.elim (fun _=>none) (fun y21=>some (.inr y21)) y19)))))))))) (fun y8=>some (.inr y8)) y6)))
theorem ZbX (a0:List Zx) (ha0:LL Xp a0) (i0:Nat):loopM (M.QH a0) (i0:Int)=some (runN (S.QH a0) (.inl ()) i0 (a0.length - i0)):=by
 have hM:=Zo
 have hni1:a0.length≤maxLen:=ha0.1
 refine Z6 (n:=a0.length) (fun i1 hi1=>?_) (fun m hm=>?_) i0
 ·unfold M.QH S.QH
  try simp only [Int.toNat_natCast]
  refine X2 (dt (by omega)) ?_
  refine YD (Zw (dt (by omega)) (Zw (dt (by omega)) XP)) ?_
  refine ZU (KA ((a0.getD i1 default).ZH) (Xp.ZH (LL.getD ha0 Xp.dflt i1))) (fun r3 her3=>?_)
  refine XX (fun hb2=>?_) (fun hb2=>?_)
  ·exact XE
  ·refine ZU (ZbV a0 i1 ha0 hi1 0) (fun y6 hey6=>?_)
   refine J4 (fun _ hl=>?_) (fun y8 hly8=>?_)
   ·refine ZU (Yd ((a0.getD i1 default).ZM) 0 32) (fun r9 her9=>?_)
    refine ZU (JA fun hg=>(Yd ((a0.getD i1 default).XI) 0 4094)) (fun r10 her10=>?_)
    refine ZU (JA fun hg=>(Yd ((a0.getD i1 default).R6) 0 2)) (fun r11 her11=>?_)
    refine XX (fun hb4=>?_) (fun hb4=>?_)
    ·exact XE
    ·refine XX (fun hb5=>?_) (fun hb5=>?_)
     ·exact XE
     ·refine ZU (JA fun hg=>(Yd ((a0.getD i1 default).Vb) 0 255)) (fun r12 her12=>?_)
      refine ZU (JA fun hg=>(Yd ((a0.getD i1 default).RC) 1 65535)) (fun r13 her13=>?_)
      refine XX (fun hb6=>?_) (fun hb6=>?_)
      ·exact XE
      ·refine ZU (ZbW a0 i1 ha0 hi1 0) (fun y19 hey19=>?_)
       refine J4 (fun _ hl=>?_) (fun y21 hly21=>?_)
       ·exact JZ (by omega)
       ·exact XE
   ·exact XE
 ·unfold M.QH
  try simp only [Int.toNat_natCast]
  exact X3 (decide_eq_false (by omega)) rfl
noncomputable def S.Js (a0:List Zx):Int :=
 bif decide ((a0.length:Int) > 8) then 7 else (letS (runN (S.QH a0) (.inl ()) 0 a0.length) (fun y22=>Sum.elim (fun _=>0) (fun y24=>y24) y22))
theorem Zd1 (a0:List Zx) (ha0:LL Xp a0):M.Js a0=some (S.Js a0):=by
 have hM:=Zo
 unfold M.Js S.Js
 refine Jp (fun hb1=>?_) (fun hb1=>?_)
 ·rfl
 ·refine Z3 (ZbX a0 ha0 0) (fun y22 hey22=>?_)
  refine QG (fun _ hl=>?_) (fun y24 hly24=>?_)
  ·rfl
  ·rfl
noncomputable def S.YU (a0:ZO):Bool :=
 letS (bif ((decide (a0.ZM ≥ 0))&&(decide (a0.ZM≤32))) then S.VI a0.ZM else default) (fun r1=>((decide (a0.ZM ≥ 0))&&(decide (a0.ZM≤32)))&&((bitD .andNot .u32 a0.ZA r1)==0))
theorem UX (a0:ZO) :M.YU a0=some (S.YU a0):=by
 have hM:=Zo
 unfold M.YU S.YU
 refine Z3 (JA fun hg=>(ZbU a0.ZM)) (fun r1 her1=>?_)
 rfl
noncomputable def S.Qu (a0:Vy):Bool :=
 letS (S.YU a0.Zp) (fun r1=>((r1&&(decide (a0.Zp.ZM≤a0.Zcp)))&&(decide (a0.Zcp≤a0.Zcq)))&&(decide (a0.Zcq≤32)))
theorem ZaJ (a0:Vy) :M.Qu a0=some (S.Qu a0):=by
 have hM:=Zo
 unfold M.Qu S.Qu
 refine Z3 (UX a0.Zp) (fun r1 her1=>?_)
 rfl
noncomputable def S.QU (a0:List ZD) (i1:Nat) (i4:Nat):Option (Unit ⊕ Int) :=
 bif strEq ((a0.getD i4 default).ZH) ((a0.getD i1 default).ZH) then (some (.inr 4)) else none
theorem Zbc (a0:List ZD) (i1:Nat) (ha0:LL X7 a0) (hi1:i1 < a0.length) (i0:Nat):loopM (M.QU a0 (i1:Int)) (i0:Int)=some (runN (S.QU a0 i1) (.inl ()) i0 (i1 - i0)):=by
 have hM:=Zo
 have hni1:a0.length≤maxLen:=ha0.1
 have hni4:i1≤maxLen:=(by omega)
 refine Z6 (n:=i1) (fun i4 hi4=>?_) (fun m hm=>?_) i0
 ·unfold M.QU S.QU
  try simp only [Int.toNat_natCast]
  refine X2 (dt (by omega)) ?_
  refine YD (Zw (dt (by omega)) (Zw (dt (by omega)) (Zw (dt (by omega)) (Zw (dt (by omega)) XP)))) ?_
  refine XX (fun hb3=>?_) (fun hb3=>?_)
  ·exact XE
  ·exact JZ (by omega)
 ·unfold M.QU
  try simp only [Int.toNat_natCast]
  exact X3 (decide_eq_false (by omega)) rfl
noncomputable def S.Qn (a0:List ZD) (i1:Nat) (i9:Nat):Option (Unit ⊕ Int) :=
 letS (S.Qu (((a0.getD i1 default).Xv).getD i9 default)) (fun r11=>bif !r11 then (some (.inr 1)) else none)
theorem Zbd (a0:List ZD) (i1:Nat) (ha0:LL X7 a0) (hi1:i1 < a0.length) (i0:Nat):loopM (M.Qn a0 (i1:Int)) (i0:Int)=some (runN (S.Qn a0 i1) (.inl ()) i0 (((a0.getD i1 default).Xv).length - i0)):=by
 have hM:=Zo
 have hni1:a0.length≤maxLen:=ha0.1
 have hni9:((a0.getD i1 default).Xv).length≤maxLen:=(X7.Xv (LL.getD ha0 X7.dflt i1))
 refine Z6 (n:=((a0.getD i1 default).Xv).length) (fun i9 hi9=>?_) (fun m hm=>?_) i0
 ·unfold M.Qn S.Qn
  try simp only [Int.toNat_natCast]
  refine YD (Zw (dt (by omega)) (Zw (dt (by omega)) XP))  ?_
  refine X2 (dt (by omega)) ?_
  refine ZU (ZaJ (((a0.getD i1 default).Xv).getD i9 default)) (fun r11 her11=>?_)
  refine YD (Zw (dt (by omega)) (Zw (dt (by omega)) (Zw (dt (by omega)) (Zw (dt (by omega)) XP)))) ?_
  refine XX (fun hb6=>?_) (fun hb6=>?_)
  ·exact XE
  ·exact JZ (by omega)
 ·unfold M.Qn
  try simp only [Int.toNat_natCast]
  refine YD (Zw (dt (by omega)) (Zw (dt (by omega)) XP))  ?_
  exact X3 (decide_eq_false (by omega)) rfl
noncomputable def S.Qo (a0:List ZD) (i1:Nat):Option (Unit ⊕ Int) :=
 letS (S.Jo ((a0.getD i1 default).ZH)) (fun r3=>bif !r3 then (some (.inr 3)) else (letS (runN (S.QU a0 i1) (.inl ()) 0 i1) (fun y6=>Sum.elim (fun _=>bif (((a0.getD i1 default).Xv).length:Int)==0 then (some (.inr 1)) else (bif decide ((((a0.getD i1 default).Xv).length:Int) > 16) then (some (.inr 7)) else (letS (runN (S.Qn a0 i1) (.inl ()) 0 (((a0.getD i1 default).Xv).length)) (fun y12=>Sum.elim (fun _=>none) (fun y14=>some (.inr y14)) y12)))) (fun y8=>some (.inr y8)) y6)))
theorem Zbe (a0:List ZD) (ha0:LL X7 a0) (i0:Nat):loopM (M.Qo a0) (i0:Int)=some (runN (S.Qo a0) (.inl ()) i0 (a0.length - i0)):=by
 have hM:=Zo
 have hni1:a0.length≤maxLen:=ha0.1
 refine Z6 (n:=a0.length) (fun i1 hi1=>?_) (fun m hm=>?_) i0
 ·unfold M.Qo S.Qo
  try simp only [Int.toNat_natCast]
  refine X2 (dt (by omega)) ?_
  refine ZU (KA ((a0.getD i1 default).ZH) (X7.ZH (LL.getD ha0 X7.dflt i1))) (fun r3 her3=>?_)
  refine YD (Zw (dt (by omega)) (Zw (dt (by omega)) XP)) ?_
  refine XX (fun hb2=>?_) (fun hb2=>?_)
  ·exact XE
  ·refine ZU (Zbc a0 i1 ha0 hi1 0) (fun y6 hey6=>?_)
   refine J4 (fun _ hl=>?_) (fun y8 hly8=>?_)
   ·refine YD (Zw (dt (by omega)) (Zw (dt (by omega)) XP)) ?_
    refine XX (fun hb4=>?_) (fun hb4=>?_)
    ·exact XE
    ·refine YD (Zw (dt (by omega)) (Zw (dt (by omega)) XP)) ?_
     refine XX (fun hb5=>?_) (fun hb5=>?_)
     ·exact XE
     ·refine ZU (Zbd a0 i1 ha0 hi1 0) (fun y12 hey12=>?_)
      refine J4 (fun _ hl=>?_) (fun y14 hly14=>?_)
      ·exact JZ (by omega)
      ·exact XE
   ·exact XE
 ·unfold M.Qo
  try simp only [Int.toNat_natCast]
  exact X3 (decide_eq_false (by omega)) rfl
noncomputable def S.QY (a0:List ZD):Int :=
 bif decide ((a0.length:Int) > 8) then 7 else (letS (runN (S.Qo a0) (.inl ()) 0 a0.length) (fun y15=>Sum.elim (fun _=>0) (fun y17=>y17) y15))
theorem Zdm (a0:List ZD) (ha0:LL X7 a0):M.QY a0=some (S.QY a0):=by
 have hM:=Zo
 unfold M.QY S.QY
 refine Jp (fun hb1=>?_) (fun hb1=>?_)
 ·rfl
 ·refine Z3 (Zbe a0 ha0 0) (fun y15 hey15=>?_)
  refine QG (fun _ hl=>?_) (fun y17 hly17=>?_)
  ·rfl
  ·rfl
noncomputable def S.JN (a0:Zf) (a1:ByteArray) (i1:Nat):Option (Unit ⊕ Int) :=
 bif strEq ((a0.Xi.getD i1 default).ZH) a1 then (some (.inr (i1:Int))) else none
theorem ZbY (a0:Zf) (a1:ByteArray) (ha0:Zi a0) (ha1:a1.size≤maxLen) (i0:Nat):loopM (M.JN a0 a1) (i0:Int)=some (runN (S.JN a0 a1) (.inl ()) i0 (a0.Xi.length - i0)):=by
 have hM:=Zo
 have hni1:a0.Xi.length≤maxLen:=(Zi.Xi ha0).1
 refine Z6 (n:=a0.Xi.length) (fun i1 hi1=>?_) (fun m hm=>?_) i0
 ·unfold M.JN S.JN
  try simp only [Int.toNat_natCast]
  refine X2 (dt (by omega)) ?_
  refine YD (Zw (dt (by omega)) (Zw (dt (by omega)) XP)) ?_
  refine XX (fun hb1=>?_) (fun hb1=>?_)
  ·exact XE
  ·exact JZ (by omega)
 ·unfold M.JN
  try simp only [Int.toNat_natCast]
  exact X3 (decide_eq_false (by omega)) rfl
noncomputable def S.QB (a0:Zf) (a1:ByteArray):Int :=
 letS (runN (S.JN a0 a1) (.inl ()) 0 a0.Xi.length) (fun y3=>Sum.elim (fun _=>-1) (fun y5=>y5) y3)
theorem Kj (a0:Zf) (a1:ByteArray) (ha0:Zi a0) (ha1:a1.size≤maxLen):M.QB a0 a1=some (S.QB a0 a1):=by
 have hM:=Zo
 unfold M.QB S.QB
 refine Z3 (ZbY a0 a1 ha0 ha1 0) (fun y3 hey3=>?_)
 refine QG (fun _ hl=>?_) (fun y5 hly5=>?_)
 ·rfl
 ·rfl
noncomputable def S.JE (a0:Zf) (i1:Nat) (i4:Nat):Option (Unit ⊕ Int) :=
 bif strEq ((a0.Z9.getD i4 default).ZH) ((a0.Z9.getD i1 default).ZH) then (some (.inr 4)) else none
theorem Zcw (a0:Zf) (i1:Nat) (ha0:Zi a0) (hi1:i1 < a0.Z9.length) (i0:Nat):loopM (M.JE a0 (i1:Int)) (i0:Int)=some (runN (S.JE a0 i1) (.inl ()) i0 (i1 - i0)):=by
 have hM:=Zo
 have hni1:a0.Z9.length≤maxLen:=(Zi.Z9 ha0).1
 have hni4:i1≤maxLen:=(by omega)
 refine Z6 (n:=i1) (fun i4 hi4=>?_) (fun m hm=>?_) i0
 ·unfold M.JE S.JE
  try simp only [Int.toNat_natCast]
  refine X2 (dt (by omega)) ?_
  refine YD (Zw (dt (by omega)) (Zw (dt (by omega)) (Zw (dt (by omega)) (Zw (dt (by omega)) XP)))) ?_
  refine XX (fun hb3=>?_) (fun hb3=>?_)
  ·exact XE
  ·exact JZ (by omega)
 ·unfold M.JE
  try simp only [Int.toNat_natCast]
  exact X3 (decide_eq_false (by omega)) rfl
noncomputable def S.Q7 (a0:Zf) (i1:Nat) (i9:Nat):Option (Unit ⊕ Int) :=
 letS (bif (!strEq ((((a0.Z9.getD i1 default).Xj).getD i9 default).QX) (⟨#[]⟩:ByteArray)) then S.QB a0 ((((a0.Z9.getD i1 default).Xj).getD i9 default).QX) else default) (fun r11=>bif (!strEq ((((a0.Z9.getD i1 default).Xj).getD i9 default).QX) (⟨#[]⟩:ByteArray))&&(decide (r11 < 0)) then (some (.inr 5)) else (letS (S.ZC ((((a0.Z9.getD i1 default).Xj).getD i9 default).Gd) (-1) 65535) (fun r12=>letS (bif (!(!r12)) then S.ZC ((((a0.Z9.getD i1 default).Xj).getD i9 default).G9) (-1) 65535 else default) (fun r13=>letS (bif (!((!r12)||(!r13))) then S.ZC ((((a0.Z9.getD i1 default).Xj).getD i9 default).W1) (-1) 16777215 else default) (fun r14=>letS (bif (!(((!r12)||(!r13))||(!r14))) then S.ZC ((((a0.Z9.getD i1 default).Xj).getD i9 default).Gl) (-1) 1000000 else default) (fun r15=>letS (bif (!((((!r12)||(!r13))||(!r14))||(!r15))) then S.ZC ((((a0.Z9.getD i1 default).Xj).getD i9 default).Gm) 0 8 else default) (fun r16=>bif ((((!r12)||(!r13))||(!r14))||(!r15))||(!r16) then (some (.inr 1)) else none)))))))
theorem Zcx (a0:Zf) (i1:Nat) (ha0:Zi a0) (hi1:i1 < a0.Z9.length) (i0:Nat):loopM (M.Q7 a0 (i1:Int)) (i0:Int)=some (runN (S.Q7 a0 i1) (.inl ()) i0 (((a0.Z9.getD i1 default).Xj).length - i0)):=by
 have hM:=Zo
 have hni1:a0.Z9.length≤maxLen:=(Zi.Z9 ha0).1
 have hni9:((a0.Z9.getD i1 default).Xj).length≤maxLen:=(Ym.Xj (LL.getD (Zi.Z9 ha0) Ym.dflt i1)).1
 refine Z6 (n:=((a0.Z9.getD i1 default).Xj).length) (fun i9 hi9=>?_) (fun m hm=>?_) i0
 ·unfold M.Q7 S.Q7
  try simp only [Int.toNat_natCast]
  refine YD (Zw (dt (by omega)) (Zw (dt (by omega)) XP))  ?_
  refine X2 (dt (by omega)) ?_
  refine YD (Zw (dt (by omega)) (Zw (dt (by omega)) (Zw (dt (by omega)) (Zw (dt (by omega)) XP)))) ?_
  refine ZU (JA fun hg=>(Kj a0 ((((a0.Z9.getD i1 default).Xj).getD i9 default).QX) ha0 (WX.QX (LL.getD (Ym.Xj (LL.getD (Zi.Z9 ha0) Ym.dflt i1)) WX.dflt i9)))) (fun r11 her11=>?_)
  refine XX (fun hb6=>?_) (fun hb6=>?_)
  ·exact XE
  ·refine ZU (Yd ((((a0.Z9.getD i1 default).Xj).getD i9 default).Gd) (-1) 65535) (fun r12 her12=>?_)
   refine ZU (JA fun hg=>(Yd ((((a0.Z9.getD i1 default).Xj).getD i9 default).G9) (-1) 65535)) (fun r13 her13=>?_)
   refine ZU (JA fun hg=>(Yd ((((a0.Z9.getD i1 default).Xj).getD i9 default).W1) (-1) 16777215)) (fun r14 her14=>?_)
   refine ZU (JA fun hg=>(Yd ((((a0.Z9.getD i1 default).Xj).getD i9 default).Gl) (-1) 1000000)) (fun r15 her15=>?_)
   refine ZU (JA fun hg=>(Yd ((((a0.Z9.getD i1 default).Xj).getD i9 default).Gm) 0 8)) (fun r16 her16=>?_)
   refine XX (fun hb7=>?_) (fun hb7=>?_)
   ·exact XE
   ·exact JZ (by omega)
 ·unfold M.Q7
  try simp only [Int.toNat_natCast]
  refine YD (Zw (dt (by omega)) (Zw (dt (by omega)) XP))  ?_
  exact X3 (decide_eq_false (by omega)) rfl
noncomputable def S.Q8 (a0:Zf) (i1:Nat):Option (Unit ⊕ Int) :=
 letS (S.Jo ((a0.Z9.getD i1 default).ZH)) (fun r3=>bif !r3 then (some (.inr 3)) else (letS (runN (S.JE a0 i1) (.inl ()) 0 i1) (fun y6=>Sum.elim (fun _=>bif (((a0.Z9.getD i1 default).Xj).length:Int)==0 then (some (.inr 1)) else (bif decide ((((a0.Z9.getD i1 default).Xj).length:Int) > 8) then (some (.inr 7)) else (letS (runN (S.Q7 a0 i1) (.inl ()) 0 (((a0.Z9.getD i1 default).Xj).length)) (fun y17=>Sum.elim (fun _=>none) (fun y19=>some (.inr y19)) y17)))) (fun y8=>some (.inr y8)) y6)))
theorem Zcy (a0:Zf) (ha0:Zi a0) (i0:Nat):loopM (M.Q8 a0) (i0:Int)=some (runN (S.Q8 a0) (.inl ()) i0 (a0.Z9.length - i0)):=by
 have hM:=Zo
 have hni1:a0.Z9.length≤maxLen:=(Zi.Z9 ha0).1
 refine Z6 (n:=a0.Z9.length) (fun i1 hi1=>?_) (fun m hm=>?_) i0
 ·unfold M.Q8 S.Q8
  try simp only [Int.toNat_natCast]
  refine X2 (dt (by omega)) ?_
  refine ZU (KA ((a0.Z9.getD i1 default).ZH) (Ym.ZH (LL.getD (Zi.Z9 ha0) Ym.dflt i1))) (fun r3 her3=>?_)
  refine YD (Zw (dt (by omega)) (Zw (dt (by omega)) XP)) ?_
  refine XX (fun hb2=>?_) (fun hb2=>?_)
  ·exact XE
  ·refine ZU (Zcw a0 i1 ha0 hi1 0) (fun y6 hey6=>?_)
   refine J4 (fun _ hl=>?_) (fun y8 hly8=>?_)
   ·refine YD (Zw (dt (by omega)) (Zw (dt (by omega)) XP)) ?_
    refine XX (fun hb4=>?_) (fun hb4=>?_)
    ·exact XE
    ·refine YD (Zw (dt (by omega)) (Zw (dt (by omega)) XP)) ?_
     refine XX (fun hb5=>?_) (fun hb5=>?_)
     ·exact XE
     ·refine ZU (Zcx a0 i1 ha0 hi1 0) (fun y17 hey17=>?_)
      refine J4 (fun _ hl=>?_) (fun y19 hly19=>?_)
      ·exact JZ (by omega)
      ·exact XE
   ·exact XE
 ·unfold M.Q8
  try simp only [Int.toNat_natCast]
  exact X3 (decide_eq_false (by omega)) rfl
noncomputable def S.JR (a0:Zf):Int :=
 bif decide ((a0.Z9.length:Int) > 8) then 7 else (letS (runN (S.Q8 a0) (.inl ()) 0 a0.Z9.length) (fun y20=>Sum.elim (fun _=>0) (fun y22=>y22) y20))
theorem Zez (a0:Zf) (ha0:Zi a0):M.JR a0=some (S.JR a0):=by
 have hM:=Zo
 unfold M.JR S.JR
 refine Jp (fun hb1=>?_) (fun hb1=>?_)
 ·rfl
 ·refine Z3 (Zcy a0 ha0 0) (fun y20 hey20=>?_)
  refine QG (fun _ hl=>?_) (fun y22 hly22=>?_)
  ·rfl
  ·rfl
noncomputable def S.Wj (a0:Vc):Bool :=
 ((decide (0≤a0.GB))&&(decide (a0.GB≤a0.Ka)))&&(decide (a0.Ka≤65535))
theorem Zd2 (a0:Vc) :M.Wj a0=some (S.Wj a0):=by
 have hM:=Zo
 unfold M.Wj S.Wj
 rfl
noncomputable def S.U2 (a0:Vc):Bool :=
 (a0.GB==0)&&((a0.Ka==65535)&&true)
theorem Zgd (a0:Vc) :M.U2 a0=some (S.U2 a0):=by
 have hM:=Zo
 unfold M.U2 S.U2
 rfl
noncomputable def S.Vd (a0:Kb):Bool :=
 letS (S.ZC a0.Yg (-1) 255) (fun r1=>letS (bif (!(((!r1)||((bitD .and .u32 a0.RM.ZA a0.RM.GA) != 0))||((bitD .and .u32 a0.RN.ZA a0.RN.GA) != 0))) then S.Wj a0.VF else default) (fun r2=>letS (bif (!((((!r1)||((bitD .and .u32 a0.RM.ZA a0.RM.GA) != 0))||((bitD .and .u32 a0.RN.ZA a0.RN.GA) != 0))||(!r2))) then S.Wj a0.VG else default) (fun r3=>bif ((((!r1)||((bitD .and .u32 a0.RM.ZA a0.RM.GA) != 0))||((bitD .and .u32 a0.RN.ZA a0.RN.GA) != 0))||(!r2))||(!r3) then false else (letS (bif (!((a0.Yg==6)||(a0.Yg==17))) then S.U2 a0.VF else default) (fun r4=>letS (bif ((!((a0.Yg==6)||(a0.Yg==17)))&&r4) then S.U2 a0.VG else default) (fun r5=>((a0.Yg==6)||(a0.Yg==17))||(r4&&r5)))))))
theorem ZeA (a0:Kb) :M.Vd a0=some (S.Vd a0):=by
 have hM:=Zo
 unfold M.Vd S.Vd
 refine Z3 (Yd a0.Yg (-1) 255) (fun r1 her1=>?_)
 refine Z3 (JA fun hg=>(Zd2 a0.VF)) (fun r2 her2=>?_)
 refine Z3 (JA fun hg=>(Zd2 a0.VG)) (fun r3 her3=>?_)
 refine Jp (fun hb1=>?_) (fun hb1=>?_)
 ·rfl
 ·refine Z3 (JA fun hg=>(Zgd a0.VF)) (fun r4 her4=>?_)
  refine Z3 (JA fun hg=>(Zgd a0.VG)) (fun r5 her5=>?_)
  rfl
noncomputable def S.QV (a0:List V2) (i1:Nat) (i4:Nat):Option (Unit ⊕ Int) :=
 bif strEq ((a0.getD i4 default).ZH) ((a0.getD i1 default).ZH) then (some (.inr 4)) else none
theorem Zbf (a0:List V2) (i1:Nat) (ha0:LL Wz a0) (hi1:i1 < a0.length) (i0:Nat):loopM (M.QV a0 (i1:Int)) (i0:Int)=some (runN (S.QV a0 i1) (.inl ()) i0 (i1 - i0)):=by
 have hM:=Zo
 have hni1:a0.length≤maxLen:=ha0.1
 have hni4:i1≤maxLen:=(by omega)
 refine Z6 (n:=i1) (fun i4 hi4=>?_) (fun m hm=>?_) i0
 ·unfold M.QV S.QV
  try simp only [Int.toNat_natCast]
  refine X2 (dt (by omega)) ?_
  refine YD (Zw (dt (by omega)) (Zw (dt (by omega)) (Zw (dt (by omega)) (Zw (dt (by omega)) XP)))) ?_
  refine XX (fun hb3=>?_) (fun hb3=>?_)
  ·exact XE
  ·exact JZ (by omega)
 ·unfold M.QV
  try simp only [Int.toNat_natCast]
  exact X3 (decide_eq_false (by omega)) rfl
noncomputable def S.Qp (a0:List V2) (i1:Nat) (i9:Nat):Option (Unit ⊕ Int) :=
 letS (S.Vd (((a0.getD i1 default).Xv).getD i9 default)) (fun r11=>bif !r11 then (some (.inr 1)) else none)
theorem Zbg (a0:List V2) (i1:Nat) (ha0:LL Wz a0) (hi1:i1 < a0.length) (i0:Nat):loopM (M.Qp a0 (i1:Int)) (i0:Int)=some (runN (S.Qp a0 i1) (.inl ()) i0 (((a0.getD i1 default).Xv).length - i0)):=by
 have hM:=Zo
 have hni1:a0.length≤maxLen:=ha0.1
 have hni9:((a0.getD i1 default).Xv).length≤maxLen:=(Wz.Xv (LL.getD ha0 Wz.dflt i1))
 refine Z6 (n:=((a0.getD i1 default).Xv).length) (fun i9 hi9=>?_) (fun m hm=>?_) i0
 ·unfold M.Qp S.Qp
  try simp only [Int.toNat_natCast]
  refine YD (Zw (dt (by omega)) (Zw (dt (by omega)) XP))  ?_
  refine X2 (dt (by omega)) ?_
  refine ZU (ZeA (((a0.getD i1 default).Xv).getD i9 default)) (fun r11 her11=>?_)
  refine YD (Zw (dt (by omega)) (Zw (dt (by omega)) (Zw (dt (by omega)) (Zw (dt (by omega)) XP)))) ?_
  refine XX (fun hb6=>?_) (fun hb6=>?_)
  ·exact XE
  ·exact JZ (by omega)
 ·unfold M.Qp
  try simp only [Int.toNat_natCast]
  refine YD (Zw (dt (by omega)) (Zw (dt (by omega)) XP))  ?_
  exact X3 (decide_eq_false (by omega)) rfl
noncomputable def S.Qq (a0:List V2) (i1:Nat):Option (Unit ⊕ Int) :=
 letS (S.Jo ((a0.getD i1 default).ZH)) (fun r3=>bif !r3 then (some (.inr 3)) else (letS (runN (S.QV a0 i1) (.inl ()) 0 i1) (fun y6=>Sum.elim (fun _=>bif (((a0.getD i1 default).Xv).length:Int)==0 then (some (.inr 1)) else (bif decide ((((a0.getD i1 default).Xv).length:Int) > 16) then (some (.inr 7)) else (letS (runN (S.Qp a0 i1) (.inl ()) 0 (((a0.getD i1 default).Xv).length)) (fun y12=>Sum.elim (fun _=>none) (fun y14=>some (.inr y14)) y12)))) (fun y8=>some (.inr y8)) y6)))
theorem Zbh (a0:List V2) (ha0:LL Wz a0) (i0:Nat):loopM (M.Qq a0) (i0:Int)=some (runN (S.Qq a0) (.inl ()) i0 (a0.length - i0)):=by
 have hM:=Zo
 have hni1:a0.length≤maxLen:=ha0.1
 refine Z6 (n:=a0.length) (fun i1 hi1=>?_) (fun m hm=>?_) i0
 ·unfold M.Qq S.Qq
  try simp only [Int.toNat_natCast]
  refine X2 (dt (by omega)) ?_
  refine ZU (KA ((a0.getD i1 default).ZH) (Wz.ZH (LL.getD ha0 Wz.dflt i1))) (fun r3 her3=>?_)
  refine YD (Zw (dt (by omega)) (Zw (dt (by omega)) XP)) ?_
  refine XX (fun hb2=>?_) (fun hb2=>?_)
  ·exact XE
  ·refine ZU (Zbf a0 i1 ha0 hi1 0) (fun y6 hey6=>?_)
   refine J4 (fun _ hl=>?_) (fun y8 hly8=>?_)
   ·refine YD (Zw (dt (by omega)) (Zw (dt (by omega)) XP)) ?_
    refine XX (fun hb4=>?_) (fun hb4=>?_)
    ·exact XE
    ·refine YD (Zw (dt (by omega)) (Zw (dt (by omega)) XP)) ?_
     refine XX (fun hb5=>?_) (fun hb5=>?_)
     ·exact XE
     ·refine ZU (Zbg a0 i1 ha0 hi1 0) (fun y12 hey12=>?_)
      refine J4 (fun _ hl=>?_) (fun y14 hly14=>?_)
      ·exact JZ (by omega)
      ·exact XE
   ·exact XE
 ·unfold M.Qq
  try simp only [Int.toNat_natCast]
  exact X3 (decide_eq_false (by omega)) rfl
noncomputable def S.QZ (a0:List V2):Int :=
 bif decide ((a0.length:Int) > 8) then 7 else (letS (runN (S.Qq a0) (.inl ()) 0 a0.length) (fun y15=>Sum.elim (fun _=>0) (fun y17=>y17) y15))
theorem Zdn (a0:List V2) (ha0:LL Wz a0):M.QZ a0=some (S.QZ a0):=by
 have hM:=Zo
 unfold M.QZ S.QZ
 refine Jp (fun hb1=>?_) (fun hb1=>?_)
 ·rfl
 ·refine Z3 (Zbh a0 ha0 0) (fun y15 hey15=>?_)
  refine QG (fun _ hl=>?_) (fun y17 hly17=>?_)
  ·rfl
  ·rfl
noncomputable def S.Uk (a0:Zf) (a1:ByteArray) (i1:Nat):Option (Unit ⊕ Int) :=
 bif strEq ((a0.XK.getD i1 default).ZH) a1 then (some (.inr (i1:Int))) else none
theorem Zgz (a0:Zf) (a1:ByteArray) (ha0:Zi a0) (ha1:a1.size≤maxLen) (i0:Nat):loopM (M.Uk a0 a1) (i0:Int)=some (runN (S.Uk a0 a1) (.inl ()) i0 (a0.XK.length - i0)):=by
 have hM:=Zo
 have hni1:a0.XK.length≤maxLen:=(Zi.XK ha0).1
 refine Z6 (n:=a0.XK.length) (fun i1 hi1=>?_) (fun m hm=>?_) i0
 ·unfold M.Uk S.Uk
  try simp only [Int.toNat_natCast]
  refine X2 (dt (by omega)) ?_
  refine YD (Zw (dt (by omega)) (Zw (dt (by omega)) XP)) ?_
  refine XX (fun hb1=>?_) (fun hb1=>?_)
  ·exact XE
  ·exact JZ (by omega)
 ·unfold M.Uk
  try simp only [Int.toNat_natCast]
  exact X3 (decide_eq_false (by omega)) rfl
noncomputable def S.Ul (a0:Zf) (a1:ByteArray):Int :=
 letS (runN (S.Uk a0 a1) (.inl ()) 0 a0.XK.length) (fun y3=>Sum.elim (fun _=>-1) (fun y5=>y5) y3)
theorem Zdo (a0:Zf) (a1:ByteArray) (ha0:Zi a0) (ha1:a1.size≤maxLen):M.Ul a0 a1=some (S.Ul a0 a1):=by
 have hM:=Zo
 unfold M.Ul S.Ul
 refine Z3 (Zgz a0 a1 ha0 ha1 0) (fun y3 hey3=>?_)
 refine QG (fun _ hl=>?_) (fun y5 hly5=>?_)
 ·rfl
 ·rfl
noncomputable def S.X8 (a0:Zf) (i1:Nat) (p3:Bool):Option (Unit ⊕ Int) :=
 bif !p3 then (some (.inr 1)) else (letS (bif (((a0.Xf.getD i1 default).J5)==2) then S.Ul a0 ((a0.Xf.getD i1 default).QX) else default) (fun r4=>bif (((a0.Xf.getD i1 default).J5)==2)&&(decide (r4 < 0)) then (some (.inr 5)) else none))
theorem WT (a0:Zf) (i1:Nat) (p3:Bool) (ha0:Zi a0) (hi1:i1 < a0.Xf.length):M.X8 a0 (i1:Int) p3=some (rdN (S.X8 a0 i1 p3) i1):=by
 have hM:=Zo
 have hni1:a0.Xf.length≤maxLen:=(Zi.Xf ha0).1
 unfold M.X8 S.X8
 try simp only [Int.toNat_natCast]
 refine XX (fun hb3=>?_) (fun hb3=>?_)
 ·exact XE
 ·refine ZU (JA fun hg=>(Zdo a0 ((a0.Xf.getD i1 default).QX) ha0 (JD.QX (LL.getD (Zi.Xf ha0) JD.dflt i1)))) (fun r4 her4=>?_)
  refine XX (fun hb4=>?_) (fun hb4=>?_)
  ·exact XE
  ·exact JZ (by omega)
noncomputable def S.Y2 (a0:Zf) (i1:Nat):Option (Unit ⊕ Int) :=
 bif ((a0.Xf.getD i1 default).J5)==1 then (S.X8 a0 i1 (((((a0.Xf.getD i1 default).Qm) != 0)&&(((a0.Xf.getD i1 default).YA) != 0))&&((((a0.Xf.getD i1 default).J5)==((a0.Xf.getD i1 default).J5))&&((((a0.Xf.getD i1 default).Qm)==((a0.Xf.getD i1 default).Qm))&&((((a0.Xf.getD i1 default).YA)==((a0.Xf.getD i1 default).YA))&&((((a0.Xf.getD i1 default).Yg)==0)&&((((a0.Xf.getD i1 default).QR)==0)&&((((a0.Xf.getD i1 default).Qh)==0)&&(strEq ((a0.Xf.getD i1 default).QX) (⟨#[]⟩:ByteArray)&&((((a0.Xf.getD i1 default).GB)==0)&&((((a0.Xf.getD i1 default).Ka)==0)&&true))))))))))) else (bif ((a0.Xf.getD i1 default).J5)==2 then (S.X8 a0 i1 ((((((a0.Xf.getD i1 default).GB) != 0)&&(decide (((a0.Xf.getD i1 default).GB)≤((a0.Xf.getD i1 default).Ka))))&&(decide ((wr .u32 (((a0.Xf.getD i1 default).Ka) - ((a0.Xf.getD i1 default).GB))) < 8)))&&((((a0.Xf.getD i1 default).J5)==((a0.Xf.getD i1 default).J5))&&((((a0.Xf.getD i1 default).Qm)==0)&&((((a0.Xf.getD i1 default).YA)==0)&&((((a0.Xf.getD i1 default).Yg)==0)&&((((a0.Xf.getD i1 default).QR)==0)&&((((a0.Xf.getD i1 default).Qh)==0)&&(strEq ((a0.Xf.getD i1 default).QX) ((a0.Xf.getD i1 default).QX)&&((((a0.Xf.getD i1 default).GB)==((a0.Xf.getD i1 default).GB))&&((((a0.Xf.getD i1 default).Ka)==((a0.Xf.getD i1 default).Ka))&&true))))))))))) else (bif ((a0.Xf.getD i1 default).J5)==3 then (letS (bif (((((a0.Xf.getD i1 default).Qm) != 0)&&(((a0.Xf.getD i1 default).YA) != 0))&&((((a0.Xf.getD i1 default).Yg)==6)||(((a0.Xf.getD i1 default).Yg)==17))) then S.ZC ((a0.Xf.getD i1 default).QR) 0 65535 else default) (fun r5=>letS (bif ((((((a0.Xf.getD i1 default).Qm) != 0)&&(((a0.Xf.getD i1 default).YA) != 0))&&((((a0.Xf.getD i1 default).Yg)==6)||(((a0.Xf.getD i1 default).Yg)==17)))&&r5) then S.ZC ((a0.Xf.getD i1 default).Qh) 0 65535 else default) (fun r6=>S.X8 a0 i1 ((((((((((a0.Xf.getD i1 default).Qm) != 0)&&(((a0.Xf.getD i1 default).YA) != 0))&&((((a0.Xf.getD i1 default).Yg)==6)||(((a0.Xf.getD i1 default).Yg)==17)))&&r5)&&r6)&&(strEq ((a0.Xf.getD i1 default).QX) (⟨#[]⟩:ByteArray)))&&(((a0.Xf.getD i1 default).GB)==0))&&(((a0.Xf.getD i1 default).Ka)==0))))) else (S.X8 a0 i1 false)))
theorem ZaK (a0:Zf) (ha0:Zi a0) (i0:Nat):loopM (M.Y2 a0) (i0:Int)=some (runN (S.Y2 a0) (.inl ()) i0 (a0.Xf.length - i0)):=by
 have hM:=Zo
 have hni1:a0.Xf.length≤maxLen:=(Zi.Xf ha0).1
 refine Z6 (n:=a0.Xf.length) (fun i1 hi1=>?_) (fun m hm=>?_) i0
 ·unfold M.Y2 S.Y2
  try simp only [Int.toNat_natCast]
  refine X2 (dt (by omega)) ?_
  refine YD (Zw (dt (by omega)) (Zw (dt (by omega)) XP)) ?_
  refine XX (fun hb2=>?_) (fun hb2=>?_)
  ·exact WT a0 i1 (((((a0.Xf.getD i1 default).Qm) != 0)&&(((a0.Xf.getD i1 default).YA) != 0))&&((((a0.Xf.getD i1 default).J5)==((a0.Xf.getD i1 default).J5))&&((((a0.Xf.getD i1 default).Qm)==((a0.Xf.getD i1 default).Qm))&&((((a0.Xf.getD i1 default).YA)==((a0.Xf.getD i1 default).YA))&&((((a0.Xf.getD i1 default).Yg)==0)&&((((a0.Xf.getD i1 default).QR)==0)&&((((a0.Xf.getD i1 default).Qh)==0)&&(strEq ((a0.Xf.getD i1 default).QX) (⟨#[]⟩:ByteArray)&&((((a0.Xf.getD i1 default).GB)==0)&&((((a0.Xf.getD i1 default).Ka)==0)&&true)))))))))) ha0 hi1
  ·refine XX (fun hb5=>?_) (fun hb5=>?_)
   ·exact WT a0 i1 ((((((a0.Xf.getD i1 default).GB) != 0)&&(decide (((a0.Xf.getD i1 default).GB)≤((a0.Xf.getD i1 default).Ka))))&&(decide ((wr .u32 (((a0.Xf.getD i1 default).Ka) - ((a0.Xf.getD i1 default).GB))) < 8)))&&((((a0.Xf.getD i1 default).J5)==((a0.Xf.getD i1 default).J5))&&((((a0.Xf.getD i1 default).Qm)==0)&&((((a0.Xf.getD i1 default).YA)==0)&&((((a0.Xf.getD i1 default).Yg)==0)&&((((a0.Xf.getD i1 default).QR)==0)&&((((a0.Xf.getD i1 default).Qh)==0)&&(strEq ((a0.Xf.getD i1 default).QX) ((a0.Xf.getD i1 default).QX)&&((((a0.Xf.getD i1 default).GB)==((a0.Xf.getD i1 default).GB))&&((((a0.Xf.getD i1 default).Ka)==((a0.Xf.getD i1 default).Ka))&&true)))))))))) ha0 hi1
   ·refine XX (fun hb6=>?_) (fun hb6=>?_)
    ·refine ZU (JA fun hg=>(Yd ((a0.Xf.getD i1 default).QR) 0 65535)) (fun r5 her5=>?_)
     refine ZU (JA fun hg=>(Yd ((a0.Xf.getD i1 default).Qh) 0 65535)) (fun r6 her6=>?_)
     exact WT a0 i1 ((((((((((a0.Xf.getD i1 default).Qm) != 0)&&(((a0.Xf.getD i1 default).YA) != 0))&&((((a0.Xf.getD i1 default).Yg)==6)||(((a0.Xf.getD i1 default).Yg)==17)))&&r5)&&r6)&&(strEq ((a0.Xf.getD i1 default).QX) (⟨#[]⟩:ByteArray)))&&(((a0.Xf.getD i1 default).GB)==0))&&(((a0.Xf.getD i1 default).Ka)==0)) ha0 hi1
    ·exact WT a0 i1 false ha0 hi1
 ·unfold M.Y2
  try simp only [Int.toNat_natCast]
  exact X3 (decide_eq_false (by omega)) rfl
noncomputable def S.QC (a0:Zf):Int :=
 bif decide ((a0.Xf.length:Int) > 8) then 7 else (letS (runN (S.Y2 a0) (.inl ()) 0 a0.Xf.length) (fun y7=>Sum.elim (fun _=>0) (fun y9=>y9) y7))
theorem Zcz (a0:Zf) (ha0:Zi a0):M.QC a0=some (S.QC a0):=by
 have hM:=Zo
 unfold M.QC S.QC
 refine Jp (fun hb1=>?_) (fun hb1=>?_)
 ·rfl
 ·refine Z3 (ZaK a0 ha0 0) (fun y7 hey7=>?_)
  refine QG (fun _ hl=>?_) (fun y9 hly9=>?_)
  ·rfl
  ·rfl
noncomputable def S.VR (a0:Zf) (i1:Nat):Option (Unit ⊕ Int) :=
 letS (bif (!strEq ((a0.Zc.getD i1 default).VE) (⟨#[]⟩:ByteArray)) then S.Ul a0 ((a0.Zc.getD i1 default).VE) else default) (fun r3=>letS (bif ((!((!strEq ((a0.Zc.getD i1 default).VE) (⟨#[]⟩:ByteArray))&&(decide (r3 < 0))))&&(!strEq ((a0.Zc.getD i1 default).YH) (⟨#[]⟩:ByteArray))) then S.Ul a0 ((a0.Zc.getD i1 default).YH) else default) (fun r4=>bif ((!strEq ((a0.Zc.getD i1 default).VE) (⟨#[]⟩:ByteArray))&&(decide (r3 < 0)))||((!strEq ((a0.Zc.getD i1 default).YH) (⟨#[]⟩:ByteArray))&&(decide (r4 < 0))) then (some (.inr 5)) else none))
theorem Zd3 (a0:Zf) (ha0:Zi a0) (i0:Nat):loopM (M.VR a0) (i0:Int)=some (runN (S.VR a0) (.inl ()) i0 (a0.Zc.length - i0)):=by
 have hM:=Zo
 have hni1:a0.Zc.length≤maxLen:=(Zi.Zc ha0).1
 refine Z6 (n:=a0.Zc.length) (fun i1 hi1=>?_) (fun m hm=>?_) i0
 ·unfold M.VR S.VR
  try simp only [Int.toNat_natCast]
  refine X2 (dt (by omega)) ?_
  refine YD (Zw (dt (by omega)) (Zw (dt (by omega)) XP)) ?_
  refine ZU (JA fun hg=>(Zdo a0 ((a0.Zc.getD i1 default).VE) ha0 (Xp.VE (LL.getD (Zi.Zc ha0) Xp.dflt i1)))) (fun r3 her3=>?_)
  refine ZU (JA fun hg=>(Zdo a0 ((a0.Zc.getD i1 default).YH) ha0 (Xp.YH (LL.getD (Zi.Zc ha0) Xp.dflt i1)))) (fun r4 her4=>?_)
  refine XX (fun hb1=>?_) (fun hb1=>?_)
  ·exact XE
  ·exact JZ (by omega)
 ·unfold M.VR
  try simp only [Int.toNat_natCast]
  exact X3 (decide_eq_false (by omega)) rfl
noncomputable def S.Wk (a0:Zf):Int :=
 letS (runN (S.VR a0) (.inl ()) 0 a0.Zc.length) (fun y5=>Sum.elim (fun _=>0) (fun y7=>y7) y5)
theorem Zge (a0:Zf) (ha0:Zi a0):M.Wk a0=some (S.Wk a0):=by
 have hM:=Zo
 unfold M.Wk S.Wk
 refine Z3 (Zd3 a0 ha0 0) (fun y5 hey5=>?_)
 refine QG (fun _ hl=>?_) (fun y7 hly7=>?_)
 ·rfl
 ·rfl
noncomputable def S.VS (a0:Zf) (a1:Int) (i1:Nat):Option (Unit ⊕ Int) :=
 bif (((a0.Zc.getD i1 default).ZM) != 0)&&(((a0.Zc.getD i1 default).ZA)==a1) then (some (.inr (i1:Int))) else none
theorem Zd4 (a0:Zf) (a1:Int) (ha0:Zi a0) (i0:Nat):loopM (M.VS a0 a1) (i0:Int)=some (runN (S.VS a0 a1) (.inl ()) i0 (a0.Zc.length - i0)):=by
 have hM:=Zo
 have hni1:a0.Zc.length≤maxLen:=(Zi.Zc ha0).1
 refine Z6 (n:=a0.Zc.length) (fun i1 hi1=>?_) (fun m hm=>?_) i0
 ·unfold M.VS S.VS
  try simp only [Int.toNat_natCast]
  refine X2 (dt (by omega)) ?_
  refine YD (Zw (dt (by omega)) (Zw (dt (by omega)) (Zw (JY fun hg=>(dt (by first | omega | (simp; omega) | (simp at *; omega)))) (Zw (JY fun hg=>(dt (by first | omega | (simp; omega) | (simp at *; omega)))) XP)))) ?_
  refine XX (fun hb1=>?_) (fun hb1=>?_)
  ·exact XE
  ·exact JZ (by omega)
 ·unfold M.VS
  try simp only [Int.toNat_natCast]
  exact X3 (decide_eq_false (by omega)) rfl
noncomputable def S.Q9 (a0:Zf) (a1:Int):Int :=
 letS (runN (S.VS a0 a1) (.inl ()) 0 a0.Zc.length) (fun y3=>Sum.elim (fun _=>-1) (fun y5=>y5) y3)
theorem ZbZ (a0:Zf) (a1:Int) (ha0:Zi a0):M.Q9 a0 a1=some (S.Q9 a0 a1):=by
 have hM:=Zo
 unfold M.Q9 S.Q9
 refine Z3 (Zd4 a0 a1 ha0 0) (fun y3 hey3=>?_)
 refine QG (fun _ hl=>?_) (fun y5 hly5=>?_)
 ·rfl
 ·rfl
noncomputable def S.JF (a0:Zf) (a1:ByteArray) (i1:Nat):Option (Unit ⊕ Int) :=
 bif strEq ((a0.Zc.getD i1 default).ZH) a1 then (some (.inr (i1:Int))) else none
theorem ZcA (a0:Zf) (a1:ByteArray) (ha0:Zi a0) (ha1:a1.size≤maxLen) (i0:Nat):loopM (M.JF a0 a1) (i0:Int)=some (runN (S.JF a0 a1) (.inl ()) i0 (a0.Zc.length - i0)):=by
 have hM:=Zo
 have hni1:a0.Zc.length≤maxLen:=(Zi.Zc ha0).1
 refine Z6 (n:=a0.Zc.length) (fun i1 hi1=>?_) (fun m hm=>?_) i0
 ·unfold M.JF S.JF
  try simp only [Int.toNat_natCast]
  refine X2 (dt (by omega)) ?_
  refine YD (Zw (dt (by omega)) (Zw (dt (by omega)) XP)) ?_
  refine XX (fun hb1=>?_) (fun hb1=>?_)
  ·exact XE
  ·exact JZ (by omega)
 ·unfold M.JF
  try simp only [Int.toNat_natCast]
  exact X3 (decide_eq_false (by omega)) rfl
noncomputable def S.JS (a0:Zf) (a1:ByteArray):Int :=
 letS (runN (S.JF a0 a1) (.inl ()) 0 a0.Zc.length) (fun y3=>Sum.elim (fun _=>-1) (fun y5=>y5) y3)
theorem ZeB (a0:Zf) (a1:ByteArray) (ha0:Zi a0) (ha1:a1.size≤maxLen):M.JS a0 a1=some (S.JS a0 a1):=by
 have hM:=Zo
 unfold M.JS S.JS
 refine Z3 (ZcA a0 a1 ha0 ha1 0) (fun y3 hey3=>?_)
 refine QG (fun _ hl=>?_) (fun y5 hly5=>?_)
 ·rfl
 ·rfl
theorem Zdp (a0:Zf) (a1:ByteArray):S.JS a0 a1 < (a0.Zc.length:Int):=by
 unfold S.JS
 simp only [letS]
 exact Zld (fun i=>by unfold S.JF; cases strEq (a0.Zc.getD i default).ZH a1 <;> simp) _
noncomputable def S.Jt (a0:Zf) (i1:Nat) (i11:Nat):Option (Unit ⊕ Int) :=
 bif (((((a0.Zr.getD i11 default).Zp).ZA)==(((a0.Zr.getD i1 default).Zp).ZA))&&(((((a0.Zr.getD i11 default).Zp).ZM)==(((a0.Zr.getD i1 default).Zp).ZM))&&true))&&(((a0.Zr.getD i11 default).Xd)==((a0.Zr.getD i1 default).Xd)) then (some (.inr 6)) else none
theorem Zd5 (a0:Zf) (i1:Nat) (ha0:Zi a0) (hi1:i1 < a0.Zr.length) (i0:Nat):loopM (M.Jt a0 (i1:Int)) (i0:Int)=some (runN (S.Jt a0 i1) (.inl ()) i0 (i1 - i0)):=by
 have hM:=Zo
 have hni1:a0.Zr.length≤maxLen:=(Zi.Zr ha0).1
 have hni11:i1≤maxLen:=(by omega)
 refine Z6 (n:=i1) (fun i11 hi11=>?_) (fun m hm=>?_) i0
 ·unfold M.Jt S.Jt
  try simp only [Int.toNat_natCast]
  refine X2 (dt (by omega)) ?_
  refine YD (Zw (dt (by omega)) (Zw (dt (by omega)) (Zw (JY fun hg=>(dt (by first | omega | (simp; omega) | (simp at *; omega)))) (Zw (JY fun hg=>(dt (by first | omega | (simp; omega) | (simp at *; omega)))) XP)))) ?_
  refine XX (fun hb9=>?_) (fun hb9=>?_)
  ·exact XE
  ·exact JZ (by omega)
 ·unfold M.Jt
  try simp only [Int.toNat_natCast]
  exact X3 (decide_eq_false (by omega)) rfl
noncomputable def S.Ju (a0:Zf) (i1:Nat) (_p10:Unit):Option (Unit ⊕ Int) :=
 letS (runN (S.Jt a0 i1) (.inl ()) 0 i1) (fun y13=>Sum.elim (fun _=>none) (fun y15=>some (.inr y15)) y13)
theorem RF (a0:Zf) (i1:Nat) (_p10:Unit) (ha0:Zi a0) (hi1:i1 < a0.Zr.length):M.Ju a0 (i1:Int) _p10=some (rdN (S.Ju a0 i1 _p10) i1):=by
 have hM:=Zo
 have hni1:a0.Zr.length≤maxLen:=(Zi.Zr ha0).1
 unfold M.Ju S.Ju
 try simp only [Int.toNat_natCast]
 refine ZU (Zd5 a0 i1 ha0 hi1 0) (fun y13 hey13=>?_)
 refine J4 (fun _ hl=>?_) (fun y15 hly15=>?_)
 ·exact JZ (by omega)
 ·exact XE
noncomputable def S.Jv (a0:Zf) (i1:Nat) (p5:Int):Option (Unit ⊕ Int) :=
 letS (S.YU ((a0.Zr.getD i1 default).Zp)) (fun r6=>letS (bif ((!((!r6)||(p5 != 1)))&&(((a0.Zr.getD i1 default).Vu) != 0)) then S.Q9 a0 ((a0.Zr.getD i1 default).Vu) else default) (fun r7=>letS (bif (!(((!r6)||(p5 != 1))||((((a0.Zr.getD i1 default).Vu) != 0)&&(decide (r7 ≥ 0))))) then S.ZC ((a0.Zr.getD i1 default).Xd) 1 255 else default) (fun r8=>letS (bif (!((((!r6)||(p5 != 1))||((((a0.Zr.getD i1 default).Vu) != 0)&&(decide (r7 ≥ 0))))||(!r8))) then S.ZC ((a0.Zr.getD i1 default).Gd) 0 65535 else default) (fun r9=>bif ((((!r6)||(p5 != 1))||((((a0.Zr.getD i1 default).Vu) != 0)&&(decide (r7 ≥ 0))))||(!r8))||(!r9) then (some (.inr 1)) else (bif !strEq ((a0.Zr.getD i1 default).Jj) (⟨#[]⟩:ByteArray) then (letS (S.JS a0 ((a0.Zr.getD i1 default).Jj)) (fun r16=>bif decide (r16 < 0) then (some (.inr 5)) else (bif ((a0.Zc.getD r16.toNat default).ZM)==0 then (some (.inr 1)) else (S.Ju a0 i1 ())))) else (S.Ju a0 i1 ()))))))
theorem RG (a0:Zf) (i1:Nat) (p5:Int) (ha0:Zi a0) (hi1:i1 < a0.Zr.length):M.Jv a0 (i1:Int) p5=some (rdN (S.Jv a0 i1 p5) i1):=by
 have hM:=Zo
 have hni1:a0.Zr.length≤maxLen:=(Zi.Zr ha0).1
 unfold M.Jv S.Jv
 try simp only [Int.toNat_natCast]
 refine ZU (UX ((a0.Zr.getD i1 default).Zp)) (fun r6 her6=>?_)
 refine ZU (JA fun hg=>(ZbZ a0 ((a0.Zr.getD i1 default).Vu) ha0)) (fun r7 her7=>?_)
 refine ZU (JA fun hg=>(Yd ((a0.Zr.getD i1 default).Xd) 1 255)) (fun r8 her8=>?_)
 refine ZU (JA fun hg=>(Yd ((a0.Zr.getD i1 default).Gd) 0 65535)) (fun r9 her9=>?_)
 refine XX (fun hb5=>?_) (fun hb5=>?_)
 ·exact XE
 ·refine XX (fun hb6=>?_) (fun hb6=>?_)
  ·refine ZU (ZeB a0 ((a0.Zr.getD i1 default).Jj) ha0 (Ji.Jj (LL.getD (Zi.Zr ha0) Ji.dflt i1))) (fun r16 her16=>?_)
   have hrr16:=Zdp a0 ((a0.Zr.getD i1 default).Jj)
   refine XX (fun hb7=>?_) (fun hb7=>?_)
   ·exact XE
   ·refine YD (Zw (dt (by first | omega | (simp; omega) | (simp at *; omega))) (Zw (dt (by first | omega | (simp; omega) | (simp at *; omega))) XP)) ?_
    refine XX (fun hb8=>?_) (fun hb8=>?_)
    ·exact XE
    ·exact RF a0 i1 () ha0 hi1
  ·exact RF a0 i1 () ha0 hi1
noncomputable def S.Jw (a0:Zf) (i1:Nat) (p4:Int):Option (Unit ⊕ Int) :=
 bif (a0.Zr.getD i1 default).VJ then (S.Jv a0 i1 (wr .i64 (p4+1))) else (S.Jv a0 i1 p4)
theorem RH (a0:Zf) (i1:Nat) (p4:Int) (ha0:Zi a0) (hi1:i1 < a0.Zr.length):M.Jw a0 (i1:Int) p4=some (rdN (S.Jw a0 i1 p4) i1):=by
 have hM:=Zo
 have hni1:a0.Zr.length≤maxLen:=(Zi.Zr ha0).1
 unfold M.Jw S.Jw
 try simp only [Int.toNat_natCast]
 refine XX (fun hb4=>?_) (fun hb4=>?_)
 ·exact RG a0 i1 (wr .i64 (p4+1)) ha0 hi1
 ·exact RG a0 i1 p4 ha0 hi1
noncomputable def S.Jx (a0:Zf) (i1:Nat) (p3:Int):Option (Unit ⊕ Int) :=
 bif !strEq ((a0.Zr.getD i1 default).Jj) (⟨#[]⟩:ByteArray) then (S.Jw a0 i1 (wr .i64 (p3+1))) else (S.Jw a0 i1 p3)
theorem RI (a0:Zf) (i1:Nat) (p3:Int) (ha0:Zi a0) (hi1:i1 < a0.Zr.length):M.Jx a0 (i1:Int) p3=some (rdN (S.Jx a0 i1 p3) i1):=by
 have hM:=Zo
 have hni1:a0.Zr.length≤maxLen:=(Zi.Zr ha0).1
 unfold M.Jx S.Jx
 try simp only [Int.toNat_natCast]
 refine XX (fun hb3=>?_) (fun hb3=>?_)
 ·exact RH a0 i1 (wr .i64 (p3+1)) ha0 hi1
 ·exact RH a0 i1 p3 ha0 hi1
noncomputable def S.JT (a0:Zf) (i1:Nat):Option (Unit ⊕ Int) :=
 bif ((a0.Zr.getD i1 default).Vu) != 0 then (S.Jx a0 i1 1) else (S.Jx a0 i1 0)
theorem Zd6 (a0:Zf) (ha0:Zi a0) (i0:Nat):loopM (M.JT a0) (i0:Int)=some (runN (S.JT a0) (.inl ()) i0 (a0.Zr.length - i0)):=by
 have hM:=Zo
 have hni1:a0.Zr.length≤maxLen:=(Zi.Zr ha0).1
 refine Z6 (n:=a0.Zr.length) (fun i1 hi1=>?_) (fun m hm=>?_) i0
 ·unfold M.JT S.JT
  try simp only [Int.toNat_natCast]
  refine X2 (dt (by omega)) ?_
  refine YD (Zw (dt (by omega)) (Zw (dt (by omega)) XP)) ?_
  refine XX (fun hb2=>?_) (fun hb2=>?_)
  ·exact RI a0 i1 1 ha0 hi1
  ·exact RI a0 i1 0 ha0 hi1
 ·unfold M.JT
  try simp only [Int.toNat_natCast]
  exact X3 (decide_eq_false (by omega)) rfl
noncomputable def S.VT (a0:Zf):Int :=
 bif decide ((a0.Zr.length:Int) > 16) then 7 else (letS (runN (S.JT a0) (.inl ()) 0 a0.Zr.length) (fun y17=>Sum.elim (fun _=>0) (fun y19=>y19) y17))
theorem Zgf (a0:Zf) (ha0:Zi a0):M.VT a0=some (S.VT a0):=by
 have hM:=Zo
 unfold M.VT S.VT
 refine Jp (fun hb1=>?_) (fun hb1=>?_)
 ·rfl
 ·refine Z3 (Zd6 a0 ha0 0) (fun y17 hey17=>?_)
  refine QG (fun _ hl=>?_) (fun y19 hly19=>?_)
  ·rfl
  ·rfl
noncomputable def S.Vo (a0:Zf) (a1:ByteArray) (i1:Nat):Option (Unit ⊕ Int) :=
 bif strEq ((a0.Z9.getD i1 default).ZH) a1 then (some (.inr (i1:Int))) else none
theorem Zdq (a0:Zf) (a1:ByteArray) (ha0:Zi a0) (ha1:a1.size≤maxLen) (i0:Nat):loopM (M.Vo a0 a1) (i0:Int)=some (runN (S.Vo a0 a1) (.inl ()) i0 (a0.Z9.length - i0)):=by
 have hM:=Zo
 have hni1:a0.Z9.length≤maxLen:=(Zi.Z9 ha0).1
 refine Z6 (n:=a0.Z9.length) (fun i1 hi1=>?_) (fun m hm=>?_) i0
 ·unfold M.Vo S.Vo
  try simp only [Int.toNat_natCast]
  refine X2 (dt (by omega)) ?_
  refine YD (Zw (dt (by omega)) (Zw (dt (by omega)) XP)) ?_
  refine XX (fun hb1=>?_) (fun hb1=>?_)
  ·exact XE
  ·exact JZ (by omega)
 ·unfold M.Vo
  try simp only [Int.toNat_natCast]
  exact X3 (decide_eq_false (by omega)) rfl
noncomputable def S.JG (a0:Zf) (a1:ByteArray):Int :=
 letS (runN (S.Vo a0 a1) (.inl ()) 0 a0.Z9.length) (fun y3=>Sum.elim (fun _=>-1) (fun y5=>y5) y3)
theorem KF (a0:Zf) (a1:ByteArray) (ha0:Zi a0) (ha1:a1.size≤maxLen):M.JG a0 a1=some (S.JG a0 a1):=by
 have hM:=Zo
 unfold M.JG S.JG
 refine Z3 (Zdq a0 a1 ha0 ha1 0) (fun y3 hey3=>?_)
 refine QG (fun _ hl=>?_) (fun y5 hly5=>?_)
 ·rfl
 ·rfl
noncomputable def S.Yk (a1:List YB) (i1:Nat) (i7:Nat):Option (Unit ⊕ Int) :=
 bif ((a1.getD i7 default).WU)==((a1.getD i1 default).WU) then (some (.inr 4)) else none
theorem Ro (a1:List YB) (i1:Nat) (ha1:LL J3 a1) (hi1:i1 < a1.length) (i0:Nat):loopM (M.Yk a1 (i1:Int)) (i0:Int)=some (runN (S.Yk a1 i1) (.inl ()) i0 (i1 - i0)):=by
 have hM:=Zo
 have hni1:a1.length≤maxLen:=ha1.1
 have hni7:i1≤maxLen:=(by omega)
 refine Z6 (n:=i1) (fun i7 hi7=>?_) (fun m hm=>?_) i0
 ·unfold M.Yk S.Yk
  try simp only [Int.toNat_natCast]
  refine X2 (dt (by omega)) ?_
  refine YD (Zw (dt (by omega)) (Zw (dt (by omega)) XP)) ?_
  refine XX (fun hb5=>?_) (fun hb5=>?_)
  ·exact XE
  ·exact JZ (by omega)
 ·unfold M.Yk
  try simp only [Int.toNat_natCast]
  exact X3 (decide_eq_false (by omega)) rfl
noncomputable def S.Yt (a0:Zf) (a1:List YB) (a2:Int) (a3:Int) (a4:Int) (i1:Nat):Option (Unit ⊕ Int) :=
 letS (S.ZC ((a1.getD i1 default).WU) 1 5) (fun r3=>letS (bif (!((!r3)||(((a1.getD i1 default).WU)==a2))) then S.ZC ((a1.getD i1 default).KP) a3 a4 else default) (fun r4=>letS (bif (!(((!r3)||(((a1.getD i1 default).WU)==a2))||(!r4))) then S.ZC ((a1.getD i1 default).Gd) 0 65535 else default) (fun r5=>bif (((!r3)||(((a1.getD i1 default).WU)==a2))||(!r4))||(!r5) then (some (.inr 1)) else (bif (((a2==3)&&(((a1.getD i1 default).Kn) != 1))&&(((a1.getD i1 default).Kn) != 2))||((a2 != 3)&&(((a1.getD i1 default).Kn) != 0)) then (some (.inr 1)) else (letS (bif (!strEq ((a1.getD i1 default).RO) (⟨#[]⟩:ByteArray)) then S.JG a0 ((a1.getD i1 default).RO) else default) (fun r6=>bif (!strEq ((a1.getD i1 default).RO) (⟨#[]⟩:ByteArray))&&(decide (r6 < 0)) then (some (.inr 5)) else (letS (runN (S.Yk a1 i1) (.inl ()) 0 i1) (fun y9=>Sum.elim (fun _=>none) (fun y11=>some (.inr y11)) y9))))))))
theorem Rp (a0:Zf) (a1:List YB) (a2:Int) (a3:Int) (a4:Int) (ha0:Zi a0) (ha1:LL J3 a1) (i0:Nat):loopM (M.Yt a0 a1 a2 a3 a4) (i0:Int)=some (runN (S.Yt a0 a1 a2 a3 a4) (.inl ()) i0 (a1.length - i0)):=by
 have hM:=Zo
 have hni1:a1.length≤maxLen:=ha1.1
 refine Z6 (n:=a1.length) (fun i1 hi1=>?_) (fun m hm=>?_) i0
 ·unfold M.Yt S.Yt
  try simp only [Int.toNat_natCast]
  refine X2 (dt (by omega)) ?_
  refine YD (Zw (dt (by omega)) (Zw (dt (by omega)) XP)) ?_
  refine ZU (Yd ((a1.getD i1 default).WU) 1 5) (fun r3 her3=>?_)
  refine ZU (JA fun hg=>(Yd ((a1.getD i1 default).KP) a3 a4)) (fun r4 her4=>?_)
  refine ZU (JA fun hg=>(Yd ((a1.getD i1 default).Gd) 0 65535)) (fun r5 her5=>?_)
  refine XX (fun hb2=>?_) (fun hb2=>?_)
  ·exact XE
  ·refine XX (fun hb3=>?_) (fun hb3=>?_)
   ·exact XE
   ·refine ZU (JA fun hg=>(KF a0 ((a1.getD i1 default).RO) ha0 (J3.RO (LL.getD ha1 J3.dflt i1)))) (fun r6 her6=>?_)
    refine XX (fun hb4=>?_) (fun hb4=>?_)
    ·exact XE
    ·refine ZU (Ro a1 i1 ha1 hi1 0) (fun y9 hey9=>?_)
     refine J4 (fun _ hl=>?_) (fun y11 hly11=>?_)
     ·exact JZ (by omega)
     ·exact XE
 ·unfold M.Yt
  try simp only [Int.toNat_natCast]
  exact X3 (decide_eq_false (by omega)) rfl
noncomputable def S.Yb (a0:Zf) (a1:List YB) (a2:Int) (a3:Int) (a4:Int):Int :=
 bif decide ((a1.length:Int) > 4) then 7 else (letS (runN (S.Yt a0 a1 a2 a3 a4) (.inl ()) 0 a1.length) (fun y12=>Sum.elim (fun _=>0) (fun y14=>y14) y12))
theorem UY (a0:Zf) (a1:List YB) (a2:Int) (a3:Int) (a4:Int) (ha0:Zi a0) (ha1:LL J3 a1):M.Yb a0 a1 a2 a3 a4=some (S.Yb a0 a1 a2 a3 a4):=by
 have hM:=Zo
 unfold M.Yb S.Yb
 refine Jp (fun hb1=>?_) (fun hb1=>?_)
 ·rfl
 ·refine Z3 (Rp a0 a1 a2 a3 a4 ha0 ha1 0) (fun y12 hey12=>?_)
  refine QG (fun _ hl=>?_) (fun y14 hly14=>?_)
  ·rfl
  ·rfl
noncomputable def S.Ja (a0:Zf) (i2:Nat) (i6:Nat):Option (Unit ⊕ Int) :=
 letS (bif (((a0.X5.ZF.getD i6 default).Vb)==((a0.X5.ZF.getD i2 default).Vb)) then S.Vi ((a0.X5.ZF.getD i6 default).Zp) ((a0.X5.ZF.getD i2 default).Zp) else default) (fun r8=>bif (((a0.X5.ZF.getD i6 default).Vb)==((a0.X5.ZF.getD i2 default).Vb))&&r8 then (some (.inr 6)) else none)
theorem ZcB (a0:Zf) (i2:Nat) (ha0:Zi a0) (hi2:i2 < a0.X5.ZF.length) (i0:Nat):loopM (M.Ja a0 (i2:Int)) (i0:Int)=some (runN (S.Ja a0 i2) (.inl ()) i0 (i2 - i0)):=by
 have hM:=Zo
 have hni2:a0.X5.ZF.length≤maxLen:=(Jr.ZF (Zi.X5 ha0))
 have hni6:i2≤maxLen:=(by omega)
 refine Z6 (n:=i2) (fun i6 hi6=>?_) (fun m hm=>?_) i0
 ·unfold M.Ja S.Ja
  try simp only [Int.toNat_natCast]
  refine X2 (dt (by omega)) ?_
  refine ZU (JA fun hg=>(Za2 ((a0.X5.ZF.getD i6 default).Zp) ((a0.X5.ZF.getD i2 default).Zp))) (fun r8 her8=>?_)
  refine YD (Zw (dt (by omega)) (Zw (dt (by omega)) (Zw (dt (by omega)) (Zw (dt (by omega)) (Zw (JY fun hg=>(dt (by first | omega | (simp; omega) | (simp at *; omega)))) (Zw (JY fun hg=>(dt (by first | omega | (simp; omega) | (simp at *; omega)))) (Zw (JY fun hg=>(dt (by first | omega | (simp; omega) | (simp at *; omega)))) (Zw (JY fun hg=>(dt (by first | omega | (simp; omega) | (simp at *; omega)))) XP)))))))) ?_
  refine XX (fun hb6=>?_) (fun hb6=>?_)
  ·exact XE
  ·exact JZ (by omega)
 ·unfold M.Ja
  try simp only [Int.toNat_natCast]
  exact X3 (decide_eq_false (by omega)) rfl
noncomputable def S.Jb (a0:Zf) (i2:Nat):Option (Unit ⊕ Int) :=
 letS (S.ZC ((a0.X5.ZF.getD i2 default).Vb) 0 255) (fun r4=>letS (bif (!(!r4)) then S.YU ((a0.X5.ZF.getD i2 default).Zp) else default) (fun r5=>bif (!r4)||(!r5) then (some (.inr 1)) else (letS (runN (S.Ja a0 i2) (.inl ()) 0 i2) (fun y9=>Sum.elim (fun _=>none) (fun y11=>some (.inr y11)) y9))))
theorem ZcC (a0:Zf) (ha0:Zi a0) (i0:Nat):loopM (M.Jb a0) (i0:Int)=some (runN (S.Jb a0) (.inl ()) i0 (a0.X5.ZF.length - i0)):=by
 have hM:=Zo
 have hni2:a0.X5.ZF.length≤maxLen:=(Jr.ZF (Zi.X5 ha0))
 refine Z6 (n:=a0.X5.ZF.length) (fun i2 hi2=>?_) (fun m hm=>?_) i0
 ·unfold M.Jb S.Jb
  try simp only [Int.toNat_natCast]
  refine X2 (dt (by omega)) ?_
  refine ZU (Yd ((a0.X5.ZF.getD i2 default).Vb) 0 255) (fun r4 her4=>?_)
  refine ZU (JA fun hg=>(UX ((a0.X5.ZF.getD i2 default).Zp))) (fun r5 her5=>?_)
  refine YD (Zw (dt (by omega)) (Zw (dt (by omega)) (Zw (JY fun hg=>(dt (by first | omega | (simp; omega) | (simp at *; omega)))) (Zw (JY fun hg=>(dt (by first | omega | (simp; omega) | (simp at *; omega)))) XP)))) ?_
  refine XX (fun hb5=>?_) (fun hb5=>?_)
  ·exact XE
  ·refine ZU (ZcB a0 i2 ha0 hi2 0) (fun y9 hey9=>?_)
   refine J4 (fun _ hl=>?_) (fun y11 hly11=>?_)
   ·exact JZ (by omega)
   ·exact XE
 ·unfold M.Jb
  try simp only [Int.toNat_natCast]
  exact X3 (decide_eq_false (by omega)) rfl
noncomputable def S.JU (a0:Zf):Int :=
 bif !a0.X5.Vz then (bif ((a0.X5.Xd != 0)||(decide ((a0.X5.ZF.length:Int) > 0)))||(decide ((a0.X5.Zs.length:Int) > 0)) then 1 else 0) else (letS (S.ZC a0.X5.Xd 1 255) (fun r1=>bif !r1 then 1 else (bif decide ((a0.X5.ZF.length:Int) > 4) then 7 else (letS (runN (S.Jb a0) (.inl ()) 0 a0.X5.ZF.length) (fun y12=>Sum.elim (fun _=>letS (S.Yb a0 a0.X5.Zs 3 0 16777215) (fun r15=>r15)) (fun y14=>y14) y12)))))
theorem ZeC (a0:Zf) (ha0:Zi a0):M.JU a0=some (S.JU a0):=by
 have hM:=Zo
 unfold M.JU S.JU
 refine Jp (fun hb1=>?_) (fun hb1=>?_)
 ·refine Jp (fun hb2=>?_) (fun hb2=>?_)
  ·rfl
  ·rfl
 ·refine Z3 (Yd a0.X5.Xd 1 255) (fun r1 her1=>?_)
  refine Jp (fun hb3=>?_) (fun hb3=>?_)
  ·rfl
  ·refine Jp (fun hb4=>?_) (fun hb4=>?_)
   ·rfl
   ·refine Z3 (ZcC a0 ha0 0) (fun y12 hey12=>?_)
    refine QG (fun _ hl=>?_) (fun y14 hly14=>?_)
    ·refine Z3 (UY a0 a0.X5.Zs 3 0 16777215 ha0 (Jr.Zs (Zi.X5 ha0))) (fun r15 her15=>?_)
     rfl
    ·rfl
noncomputable def S.Vj (a0:Zf):Int :=
 bif !a0.Ye.Vz then (bif (((a0.Ye.Xd != 0)||(!strEq a0.Ye.VE (⟨#[]⟩:ByteArray)))||(!strEq a0.Ye.YH (⟨#[]⟩:ByteArray)))||(decide ((a0.Ye.Zs.length:Int) > 0)) then 1 else 0) else (letS (S.ZC a0.Ye.Xd 1 255) (fun r1=>bif !r1 then 1 else (letS (bif (!strEq a0.Ye.VE (⟨#[]⟩:ByteArray)) then S.QB a0 a0.Ye.VE else default) (fun r2=>letS (bif ((!((!strEq a0.Ye.VE (⟨#[]⟩:ByteArray))&&(decide (r2 < 0))))&&(!strEq a0.Ye.YH (⟨#[]⟩:ByteArray))) then S.QB a0 a0.Ye.YH else default) (fun r3=>bif ((!strEq a0.Ye.VE (⟨#[]⟩:ByteArray))&&(decide (r2 < 0)))||((!strEq a0.Ye.YH (⟨#[]⟩:ByteArray))&&(decide (r3 < 0))) then 5 else (letS (S.Yb a0 a0.Ye.Zs 4 1 15) (fun r4=>r4)))))))
theorem Ze8 (a0:Zf) (ha0:Zi a0):M.Vj a0=some (S.Vj a0):=by
 have hM:=Zo
 unfold M.Vj S.Vj
 refine Jp (fun hb1=>?_) (fun hb1=>?_)
 ·refine Jp (fun hb2=>?_) (fun hb2=>?_)
  ·rfl
  ·rfl
 ·refine Z3 (Yd a0.Ye.Xd 1 255) (fun r1 her1=>?_)
  refine Jp (fun hb3=>?_) (fun hb3=>?_)
  ·rfl
  ·refine Z3 (JA fun hg=>(Kj a0 a0.Ye.VE ha0 (Yf.VE (Zi.Ye ha0)))) (fun r2 her2=>?_)
   refine Z3 (JA fun hg=>(Kj a0 a0.Ye.YH ha0 (Yf.YH (Zi.Ye ha0)))) (fun r3 her3=>?_)
   refine Jp (fun hb4=>?_) (fun hb4=>?_)
   ·rfl
   ·refine Z3 (UY a0 a0.Ye.Zs 4 1 15 ha0 (Yf.Zs (Zi.Ye ha0))) (fun r4 her4=>?_)
    rfl
noncomputable def S.Jc (a0:Zf) (i1:Nat) (i6:Nat):Option (Unit ⊕ Int) :=
 bif ((a0.Z8.Zl.getD i6 default).ZA)==((a0.Z8.Zl.getD i1 default).ZA) then (some (.inr 4)) else none
theorem ZcD (a0:Zf) (i1:Nat) (ha0:Zi a0) (hi1:i1 < a0.Z8.Zl.length) (i0:Nat):loopM (M.Jc a0 (i1:Int)) (i0:Int)=some (runN (S.Jc a0 i1) (.inl ()) i0 (i1 - i0)):=by
 have hM:=Zo
 have hni1:a0.Z8.Zl.length≤maxLen:=(Z5.Zl (Zi.Z8 ha0)).1
 have hni6:i1≤maxLen:=(by omega)
 refine Z6 (n:=i1) (fun i6 hi6=>?_) (fun m hm=>?_) i0
 ·unfold M.Jc S.Jc
  try simp only [Int.toNat_natCast]
  refine X2 (dt (by omega)) ?_
  refine YD (Zw (dt (by omega)) (Zw (dt (by omega)) (Zw (dt (by omega)) (Zw (dt (by omega)) XP)))) ?_
  refine XX (fun hb4=>?_) (fun hb4=>?_)
  ·exact XE
  ·exact JZ (by omega)
 ·unfold M.Jc
  try simp only [Int.toNat_natCast]
  exact X3 (decide_eq_false (by omega)) rfl
noncomputable def S.Jd (a0:Zf) (i1:Nat):Option (Unit ⊕ Int) :=
 letS (bif (!(((a0.Z8.Zl.getD i1 default).ZA)==0)) then S.ZC ((a0.Z8.Zl.getD i1 default).GC) 1 65535 else default) (fun r3=>bif (((a0.Z8.Zl.getD i1 default).ZA)==0)||(!r3) then (some (.inr 1)) else (letS (bif (!strEq ((a0.Z8.Zl.getD i1 default).VE) (⟨#[]⟩:ByteArray)) then S.JG a0 ((a0.Z8.Zl.getD i1 default).VE) else default) (fun r4=>letS (bif ((!((!strEq ((a0.Z8.Zl.getD i1 default).VE) (⟨#[]⟩:ByteArray))&&(decide (r4 < 0))))&&(!strEq ((a0.Z8.Zl.getD i1 default).YH) (⟨#[]⟩:ByteArray))) then S.JG a0 ((a0.Z8.Zl.getD i1 default).YH) else default) (fun r5=>bif ((!strEq ((a0.Z8.Zl.getD i1 default).VE) (⟨#[]⟩:ByteArray))&&(decide (r4 < 0)))||((!strEq ((a0.Z8.Zl.getD i1 default).YH) (⟨#[]⟩:ByteArray))&&(decide (r5 < 0))) then (some (.inr 5)) else (letS (runN (S.Jc a0 i1) (.inl ()) 0 i1) (fun y8=>Sum.elim (fun _=>none) (fun y10=>some (.inr y10)) y8))))))
theorem ZcE (a0:Zf) (ha0:Zi a0) (i0:Nat):loopM (M.Jd a0) (i0:Int)=some (runN (S.Jd a0) (.inl ()) i0 (a0.Z8.Zl.length - i0)):=by
 have hM:=Zo
 have hni1:a0.Z8.Zl.length≤maxLen:=(Z5.Zl (Zi.Z8 ha0)).1
 refine Z6 (n:=a0.Z8.Zl.length) (fun i1 hi1=>?_) (fun m hm=>?_) i0
 ·unfold M.Jd S.Jd
  try simp only [Int.toNat_natCast]
  refine X2 (dt (by omega)) ?_
  refine ZU (JA fun hg=>(Yd ((a0.Z8.Zl.getD i1 default).GC) 1 65535)) (fun r3 her3=>?_)
  refine YD (Zw (dt (by omega)) (Zw (dt (by omega)) (Zw (JY fun hg=>(dt (by first | omega | (simp; omega) | (simp at *; omega)))) (Zw (JY fun hg=>(dt (by first | omega | (simp; omega) | (simp at *; omega)))) XP)))) ?_
  refine XX (fun hb2=>?_) (fun hb2=>?_)
  ·exact XE
  ·refine ZU (JA fun hg=>(KF a0 ((a0.Z8.Zl.getD i1 default).VE) ha0 (JL.VE (LL.getD (Z5.Zl (Zi.Z8 ha0)) JL.dflt i1)))) (fun r4 her4=>?_)
   refine ZU (JA fun hg=>(KF a0 ((a0.Z8.Zl.getD i1 default).YH) ha0 (JL.YH (LL.getD (Z5.Zl (Zi.Z8 ha0)) JL.dflt i1)))) (fun r5 her5=>?_)
   refine YD (Zw (dt (by omega)) (Zw (dt (by omega)) (Zw (JY fun hg=>(dt (by first | omega | (simp; omega) | (simp at *; omega)))) (Zw (JY fun hg=>(dt (by first | omega | (simp; omega) | (simp at *; omega)))) (Zw (JY fun hg=>(dt (by first | omega | (simp; omega) | (simp at *; omega)))) (Zw (JY fun hg=>(dt (by first | omega | (simp; omega) | (simp at *; omega)))) (Zw (JY fun hg=>(dt (by first | omega | (simp; omega) | (simp at *; omega)))) (Zw (JY fun hg=>(dt (by first | omega | (simp; omega) | (simp at *; omega)))) XP)))))))) ?_
   refine XX (fun hb3=>?_) (fun hb3=>?_)
   ·exact XE
   ·refine ZU (ZcD a0 i1 ha0 hi1 0) (fun y8 hey8=>?_)
    refine J4 (fun _ hl=>?_) (fun y10 hly10=>?_)
    ·exact JZ (by omega)
    ·exact XE
 ·unfold M.Jd
  try simp only [Int.toNat_natCast]
  exact X3 (decide_eq_false (by omega)) rfl
noncomputable def S.Ve (a0:Zf):Int :=
 bif decide ((a0.Z8.Zl.length:Int) > 8) then 7 else (letS (runN (S.Jd a0) (.inl ()) 0 a0.Z8.Zl.length) (fun y11=>Sum.elim (fun _=>0) (fun y13=>y13) y11))
theorem ZeD (a0:Zf) (ha0:Zi a0):M.Ve a0=some (S.Ve a0):=by
 have hM:=Zo
 unfold M.Ve S.Ve
 refine Jp (fun hb1=>?_) (fun hb1=>?_)
 ·rfl
 ·refine Z3 (ZcE a0 ha0 0) (fun y11 hey11=>?_)
  refine QG (fun _ hl=>?_) (fun y13 hly13=>?_)
  ·rfl
  ·rfl
noncomputable def S.Qv (a0:Xb) (i1:Nat) (i4:Nat):Option (Unit ⊕ Int) :=
 bif ((((a0.Zt.getD i4 default).ZA)==((a0.Zt.getD i1 default).ZA))&&((((a0.Zt.getD i4 default).ZM)==((a0.Zt.getD i1 default).ZM))&&true)) then (some (.inr 4)) else none
theorem ZaL (a0:Xb) (i1:Nat) (ha0:Z5 a0) (hi1:i1 < a0.Zt.length) (i0:Nat):loopM (M.Qv a0 (i1:Int)) (i0:Int)=some (runN (S.Qv a0 i1) (.inl ()) i0 (i1 - i0)):=by
 have hM:=Zo
 have hni1:a0.Zt.length≤maxLen:=(Z5.Zt ha0)
 have hni4:i1≤maxLen:=(by omega)
 refine Z6 (n:=i1) (fun i4 hi4=>?_) (fun m hm=>?_) i0
 ·unfold M.Qv S.Qv
  try simp only [Int.toNat_natCast]
  refine X2 (dt (by omega)) ?_
  refine YD (Zw (dt (by omega)) (Zw (dt (by omega)) (Zw (dt (by omega)) (Zw (dt (by omega)) XP)))) ?_
  refine XX (fun hb3=>?_) (fun hb3=>?_)
  ·exact XE
  ·exact JZ (by omega)
 ·unfold M.Qv
  try simp only [Int.toNat_natCast]
  exact X3 (decide_eq_false (by omega)) rfl
noncomputable def S.Y3 (a0:Xb) (i1:Nat):Option (Unit ⊕ Int) :=
 letS (S.YU (a0.Zt.getD i1 default)) (fun r3=>bif !r3 then (some (.inr 1)) else (letS (runN (S.Qv a0 i1) (.inl ()) 0 i1) (fun y6=>Sum.elim (fun _=>none) (fun y8=>some (.inr y8)) y6)))
theorem ZaM (a0:Xb) (ha0:Z5 a0) (i0:Nat):loopM (M.Y3 a0) (i0:Int)=some (runN (S.Y3 a0) (.inl ()) i0 (a0.Zt.length - i0)):=by
 have hM:=Zo
 have hni1:a0.Zt.length≤maxLen:=(Z5.Zt ha0)
 refine Z6 (n:=a0.Zt.length) (fun i1 hi1=>?_) (fun m hm=>?_) i0
 ·unfold M.Y3 S.Y3
  try simp only [Int.toNat_natCast]
  refine X2 (dt (by omega)) ?_
  refine ZU (UX (a0.Zt.getD i1 default)) (fun r3 her3=>?_)
  refine YD (Zw (dt (by omega)) (Zw (dt (by omega)) XP)) ?_
  refine XX (fun hb2=>?_) (fun hb2=>?_)
  ·exact XE
  ·refine ZU (ZaL a0 i1 ha0 hi1 0) (fun y6 hey6=>?_)
   refine J4 (fun _ hl=>?_) (fun y8 hly8=>?_)
   ·exact JZ (by omega)
   ·exact XE
 ·unfold M.Y3
  try simp only [Int.toNat_natCast]
  exact X3 (decide_eq_false (by omega)) rfl
noncomputable def S.Y4 (a0:Xb) (i12:Nat) (i15:Nat):Option (Unit ⊕ Int) :=
 bif (((((a0.Zq.getD i15 default).Zp).ZA)==(((a0.Zq.getD i12 default).Zp).ZA))&&(((((a0.Zq.getD i15 default).Zp).ZM)==(((a0.Zq.getD i12 default).Zp).ZM))&&true)) then (some (.inr 4)) else none
theorem ZaN (a0:Xb) (i12:Nat) (ha0:Z5 a0) (hi12:i12 < a0.Zq.length) (i0:Nat):loopM (M.Y4 a0 (i12:Int)) (i0:Int)=some (runN (S.Y4 a0 i12) (.inl ()) i0 (i12 - i0)):=by
 have hM:=Zo
 have hni12:a0.Zq.length≤maxLen:=(Z5.Zq ha0)
 have hni15:i12≤maxLen:=(by omega)
 refine Z6 (n:=i12) (fun i15 hi15=>?_) (fun m hm=>?_) i0
 ·unfold M.Y4 S.Y4
  try simp only [Int.toNat_natCast]
  refine X2 (dt (by omega)) ?_
  refine YD (Zw (dt (by omega)) (Zw (dt (by omega)) (Zw (dt (by omega)) (Zw (dt (by omega)) XP)))) ?_
  refine XX (fun hb6=>?_) (fun hb6=>?_)
  ·exact XE
  ·exact JZ (by omega)
 ·unfold M.Y4
  try simp only [Int.toNat_natCast]
  exact X3 (decide_eq_false (by omega)) rfl
noncomputable def S.Y5 (a0:Xb) (i12:Nat):Option (Unit ⊕ Int) :=
 letS (S.YU ((a0.Zq.getD i12 default).Zp)) (fun r14=>bif !r14 then (some (.inr 1)) else (letS (runN (S.Y4 a0 i12) (.inl ()) 0 i12) (fun y17=>Sum.elim (fun _=>none) (fun y19=>some (.inr y19)) y17)))
theorem ZaO (a0:Xb) (ha0:Z5 a0) (i0:Nat):loopM (M.Y5 a0) (i0:Int)=some (runN (S.Y5 a0) (.inl ()) i0 (a0.Zq.length - i0)):=by
 have hM:=Zo
 have hni12:a0.Zq.length≤maxLen:=(Z5.Zq ha0)
 refine Z6 (n:=a0.Zq.length) (fun i12 hi12=>?_) (fun m hm=>?_) i0
 ·unfold M.Y5 S.Y5
  try simp only [Int.toNat_natCast]
  refine X2 (dt (by omega)) ?_
  refine ZU (UX ((a0.Zq.getD i12 default).Zp)) (fun r14 her14=>?_)
  refine YD (Zw (dt (by omega)) (Zw (dt (by omega)) XP)) ?_
  refine XX (fun hb5=>?_) (fun hb5=>?_)
  ·exact XE
  ·refine ZU (ZaN a0 i12 ha0 hi12 0) (fun y17 hey17=>?_)
   refine J4 (fun _ hl=>?_) (fun y19 hly19=>?_)
   ·exact JZ (by omega)
   ·exact XE
 ·unfold M.Y5
  try simp only [Int.toNat_natCast]
  exact X3 (decide_eq_false (by omega)) rfl
noncomputable def S.Y6 (a0:Xb) (i23:Nat) (i27:Nat):Option (Unit ⊕ Int) :=
 bif (((((a0.Zn.getD i27 default).Zp).ZA)==(((a0.Zn.getD i23 default).Zp).ZA))&&(((((a0.Zn.getD i27 default).Zp).ZM)==(((a0.Zn.getD i23 default).Zp).ZM))&&true)) then (some (.inr 4)) else none
theorem ZaP (a0:Xb) (i23:Nat) (ha0:Z5 a0) (hi23:i23 < a0.Zn.length) (i0:Nat):loopM (M.Y6 a0 (i23:Int)) (i0:Int)=some (runN (S.Y6 a0 i23) (.inl ()) i0 (i23 - i0)):=by
 have hM:=Zo
 have hni23:a0.Zn.length≤maxLen:=(Z5.Zn ha0)
 have hni27:i23≤maxLen:=(by omega)
 refine Z6 (n:=i23) (fun i27 hi27=>?_) (fun m hm=>?_) i0
 ·unfold M.Y6 S.Y6
  try simp only [Int.toNat_natCast]
  refine X2 (dt (by omega)) ?_
  refine YD (Zw (dt (by omega)) (Zw (dt (by omega)) XP)) ?_
  refine XX (fun hb10=>?_) (fun hb10=>?_)
  ·exact XE
  ·exact JZ (by omega)
 ·unfold M.Y6
  try simp only [Int.toNat_natCast]
  exact X3 (decide_eq_false (by omega)) rfl
noncomputable def S.Y7 (a0:Xb) (i23:Nat):Option (Unit ⊕ Int) :=
 letS (S.YU ((a0.Zn.getD i23 default).Zp)) (fun r25=>letS (bif (!(!r25)) then S.YU ((a0.Zn.getD i23 default).fIf) else default) (fun r26=>bif (!r25)||(!r26) then (some (.inr 1)) else (bif (((((a0.Zn.getD i23 default).Zp).ZA)==(((a0.Zn.getD i23 default).fIf).ZA))&&(((((a0.Zn.getD i23 default).Zp).ZM)==(((a0.Zn.getD i23 default).fIf).ZM))&&true)) then (some (.inr 6)) else (letS (runN (S.Y6 a0 i23) (.inl ()) 0 i23) (fun y29=>Sum.elim (fun _=>none) (fun y31=>some (.inr y31)) y29)))))
theorem ZaQ (a0:Xb) (ha0:Z5 a0) (i0:Nat):loopM (M.Y7 a0) (i0:Int)=some (runN (S.Y7 a0) (.inl ()) i0 (a0.Zn.length - i0)):=by
 have hM:=Zo
 have hni23:a0.Zn.length≤maxLen:=(Z5.Zn ha0)
 refine Z6 (n:=a0.Zn.length) (fun i23 hi23=>?_) (fun m hm=>?_) i0
 ·unfold M.Y7 S.Y7
  try simp only [Int.toNat_natCast]
  refine X2 (dt (by omega)) ?_
  refine YD (Zw (dt (by omega)) (Zw (dt (by omega)) XP)) ?_
  refine ZU (UX ((a0.Zn.getD i23 default).Zp)) (fun r25 her25=>?_)
  refine ZU (JA fun hg=>(UX ((a0.Zn.getD i23 default).fIf))) (fun r26 her26=>?_)
  refine XX (fun hb8=>?_) (fun hb8=>?_)
  ·exact XE
  ·refine XX (fun hb9=>?_) (fun hb9=>?_)
   ·exact XE
   ·refine ZU (ZaP a0 i23 ha0 hi23 0) (fun y29 hey29=>?_)
    refine J4 (fun _ hl=>?_) (fun y31 hly31=>?_)
    ·exact JZ (by omega)
    ·exact XE
 ·unfold M.Y7
  try simp only [Int.toNat_natCast]
  exact X3 (decide_eq_false (by omega)) rfl
noncomputable def S.Je (a0:Xb):Int :=
 bif decide ((a0.Zt.length:Int) > 8) then 7 else (letS (runN (S.Y3 a0) (.inl ()) 0 a0.Zt.length) (fun y9=>Sum.elim (fun _=>bif decide ((a0.Zq.length:Int) > 8) then 7 else (letS (runN (S.Y5 a0) (.inl ()) 0 a0.Zq.length) (fun y20=>Sum.elim (fun _=>bif decide ((a0.Zn.length:Int) > 8) then 7 else (letS (runN (S.Y7 a0) (.inl ()) 0 a0.Zn.length) (fun y32=>Sum.elim (fun _=>0) (fun y34=>y34) y32))) (fun y22=>y22) y20))) (fun y11=>y11) y9))
theorem ZcF (a0:Xb) (ha0:Z5 a0):M.Je a0=some (S.Je a0):=by
 have hM:=Zo
 unfold M.Je S.Je
 refine Jp (fun hb1=>?_) (fun hb1=>?_)
 ·rfl
 ·refine Z3 (ZaM a0 ha0 0) (fun y9 hey9=>?_)
  refine QG (fun _ hl=>?_) (fun y11 hly11=>?_)
  ·refine Jp (fun hb4=>?_) (fun hb4=>?_)
   ·rfl
   ·refine Z3 (ZaO a0 ha0 0) (fun y20 hey20=>?_)
    refine QG (fun _ hl=>?_) (fun y22 hly22=>?_)
    ·refine Jp (fun hb7=>?_) (fun hb7=>?_)
     ·rfl
     ·refine Z3 (ZaQ a0 ha0 0) (fun y32 hey32=>?_)
      refine QG (fun _ hl=>?_) (fun y34 hly34=>?_)
      ·rfl
      ·rfl
    ·rfl
  ·rfl
noncomputable def S.Jy (a0:Zf):Int :=
 bif !a0.Z8.Vz then (bif ((a0.Z8.XM != 0)||(a0.Z8.XN != 0))||(decide ((wr .i64 ((wr .i64 ((wr .i64 ((wr .i64 ((a0.Z8.Zl.length:Int)+(a0.Z8.Zt.length:Int)))+(a0.Z8.Zq.length:Int)))+(a0.Z8.Zn.length:Int)))+(a0.Z8.Zs.length:Int))) > 0)) then 1 else 0) else (letS (bif (!(a0.GC==0)) then S.ZC a0.Z8.XM 1 255 else default) (fun r1=>letS (bif (!((a0.GC==0)||(!r1))) then S.ZC a0.Z8.XN 1 255 else default) (fun r2=>bif ((a0.GC==0)||(!r1))||(!r2) then 1 else (letS (S.Ve a0) (fun r3=>bif r3 != 0 then r3 else (letS (S.Je a0.Z8) (fun r4=>bif r4 != 0 then r4 else (letS (S.Yb a0 a0.Z8.Zs 5 0 16777215) (fun r5=>r5)))))))))
theorem Zd7 (a0:Zf) (ha0:Zi a0):M.Jy a0=some (S.Jy a0):=by
 have hM:=Zo
 unfold M.Jy S.Jy
 refine Jp (fun hb1=>?_) (fun hb1=>?_)
 ·refine Jp (fun hb2=>?_) (fun hb2=>?_)
  ·rfl
  ·rfl
 ·refine Z3 (JA fun hg=>(Yd a0.Z8.XM 1 255)) (fun r1 her1=>?_)
  refine Z3 (JA fun hg=>(Yd a0.Z8.XN 1 255)) (fun r2 her2=>?_)
  refine Jp (fun hb3=>?_) (fun hb3=>?_)
  ·rfl
  ·refine Z3 (ZeD a0 ha0) (fun r3 her3=>?_)
   refine Jp (fun hb4=>?_) (fun hb4=>?_)
   ·rfl
   ·refine Z3 (ZcF a0.Z8 (Zi.Z8 ha0)) (fun r4 her4=>?_)
    refine Jp (fun hb5=>?_) (fun hb5=>?_)
    ·rfl
    ·refine Z3 (UY a0 a0.Z8.Zs 5 0 16777215 ha0 (Z5.Zs (Zi.Z8 ha0))) (fun r5 her5=>?_)
     rfl
noncomputable def S.Jq (r3:Int) (r4:Int) (r5:Int) (r6:Int) (r7:Int) (r8:Int) (r9:Int) (r10:Int) (r11:Int) (r12:Int) (i13:Nat):Option (Unit ⊕ Int) :=
 bif (([r3,r4,r5,r6,r7,r8,r9,r10,r11,r12]:List Int).getD i13 default) != 0 then (some (.inr (([r3,r4,r5,r6,r7,r8,r9,r10,r11,r12]:List Int).getD i13 default))) else none
theorem Zbi (r3:Int) (r4:Int) (r5:Int) (r6:Int) (r7:Int) (r8:Int) (r9:Int) (r10:Int) (r11:Int) (r12:Int)  (i0:Nat):loopM (M.Jq r3 r4 r5 r6 r7 r8 r9 r10 r11 r12) (i0:Int)=some (runN (S.Jq r3 r4 r5 r6 r7 r8 r9 r10 r11 r12) (.inl ()) i0 (([r3,r4,r5,r6,r7,r8,r9,r10,r11,r12]:List Int).length - i0)):=by
 have hM:=Zo
 have hni13:([r3,r4,r5,r6,r7,r8,r9,r10,r11,r12]:List Int).length≤maxLen:=(by simp [Zo])
 refine Z6 (n:=([r3,r4,r5,r6,r7,r8,r9,r10,r11,r12]:List Int).length) (fun i13 hi13=>?_) (fun m hm=>?_) i0
 ·unfold M.Jq S.Jq
  try simp only [Int.toNat_natCast]
  refine X2 (dt (by omega)) ?_
  refine YD (Zw (dt (by omega)) (Zw (dt (by first | omega | (simp; omega) | (simp at *; omega))) XP)) ?_
  refine XX (fun hb3=>?_) (fun hb3=>?_)
  ·refine YD (Zw (dt (by omega)) (Zw (dt (by first | omega | (simp; omega) | (simp at *; omega))) XP)) ?_
   exact XE
  ·exact JZ (by omega)
 ·unfold M.Jq
  try simp only [Int.toNat_natCast]
  exact X3 (decide_eq_false (by omega)) rfl
noncomputable def S.Q0 (a0:Zf):Int :=
 letS (S.Jo a0.ZH) (fun r1=>bif !r1 then 3 else (letS (S.ZC a0.GC 0 65535) (fun r2=>bif !r2 then 1 else (letS (S.Js a0.Zc) (fun r3=>letS (S.QY a0.Xi) (fun r4=>letS (S.JR a0) (fun r5=>letS (S.QZ a0.XK) (fun r6=>letS (S.QC a0) (fun r7=>letS (S.Wk a0) (fun r8=>letS (S.VT a0) (fun r9=>letS (S.JU a0) (fun r10=>letS (S.Vj a0) (fun r11=>letS (S.Jy a0) (fun r12=>letS (runN (S.Jq r3 r4 r5 r6 r7 r8 r9 r10 r11 r12) (.inl ()) 0 (([r3,r4,r5,r6,r7,r8,r9,r10,r11,r12]:List Int).length)) (fun y15=>Sum.elim (fun _=>0) (fun y17=>y17) y15)))))))))))))))
theorem Zdr (a0:Zf) (ha0:Zi a0):M.Q0 a0=some (S.Q0 a0):=by
 have hM:=Zo
 unfold M.Q0 S.Q0
 refine Z3 (KA a0.ZH (Zi.ZH ha0)) (fun r1 her1=>?_)
 refine Jp (fun hb1=>?_) (fun hb1=>?_)
 ·rfl
 ·refine Z3 (Yd a0.GC 0 65535) (fun r2 her2=>?_)
  refine Jp (fun hb2=>?_) (fun hb2=>?_)
  ·rfl
  ·refine Z3 (Zd1 a0.Zc (Zi.Zc ha0)) (fun r3 her3=>?_)
   refine Z3 (Zdm a0.Xi (Zi.Xi ha0)) (fun r4 her4=>?_)
   refine Z3 (Zez a0 ha0) (fun r5 her5=>?_)
   refine Z3 (Zdn a0.XK (Zi.XK ha0)) (fun r6 her6=>?_)
   refine Z3 (Zcz a0 ha0) (fun r7 her7=>?_)
   refine Z3 (Zge a0 ha0) (fun r8 her8=>?_)
   refine Z3 (Zgf a0 ha0) (fun r9 her9=>?_)
   refine Z3 (ZeC a0 ha0) (fun r10 her10=>?_)
   refine Z3 (Ze8 a0 ha0) (fun r11 her11=>?_)
   refine Z3 (Zd7 a0 ha0) (fun r12 her12=>?_)
   refine Z3 (Zbi r3 r4 r5 r6 r7 r8 r9 r10 r11 r12 0) (fun y15 hey15=>?_)
   refine QG (fun _ hl=>?_) (fun y17 hly17=>?_)
   ·rfl
   ·rfl
noncomputable def S.Wd (a0:ZP) (i1:Nat) (i4:Nat):Option (Unit ⊕ Int) :=
 bif strEq ((a0.Zd.getD i4 default).ZH) ((a0.Zd.getD i1 default).ZH) then (some (.inr 4)) else none
theorem Ze9 (a0:ZP) (i1:Nat) (ha0:Yy a0) (hi1:i1 < a0.Zd.length) (i0:Nat):loopM (M.Wd a0 (i1:Int)) (i0:Int)=some (runN (S.Wd a0 i1) (.inl ()) i0 (i1 - i0)):=by
 have hM:=Zo
 have hni1:a0.Zd.length≤maxLen:=(Yy.Zd ha0).1
 have hni4:i1≤maxLen:=(by omega)
 refine Z6 (n:=i1) (fun i4 hi4=>?_) (fun m hm=>?_) i0
 ·unfold M.Wd S.Wd
  try simp only [Int.toNat_natCast]
  refine X2 (dt (by omega)) ?_
  refine YD (Zw (dt (by omega)) (Zw (dt (by omega)) (Zw (dt (by omega)) (Zw (dt (by omega)) XP)))) ?_
  refine XX (fun hb3=>?_) (fun hb3=>?_)
  ·exact XE
  ·exact JZ (by omega)
 ·unfold M.Wd
  try simp only [Int.toNat_natCast]
  exact X3 (decide_eq_false (by omega)) rfl
noncomputable def S.VK (a0:ZP) (i1:Nat) (i9:Nat) (i11:Nat):Option (Unit ⊕ Int) :=
 letS (bif (((((a0.Zd.getD i1 default).Zc).getD i9 default).ZM) != 0) then S.Q9 (a0.Zd.getD i11 default) ((((a0.Zd.getD i1 default).Zc).getD i9 default).ZA) else default) (fun r13=>bif (((((a0.Zd.getD i1 default).Zc).getD i9 default).ZM) != 0)&&(decide (r13 ≥ 0)) then (some (.inr 4)) else none)
theorem Zfa (a0:ZP) (i1:Nat) (i9:Nat) (ha0:Yy a0) (hi1:i1 < a0.Zd.length) (hi9:i9 < ((a0.Zd.getD i1 default).Zc).length) (i0:Nat):loopM (M.VK a0 (i1:Int) (i9:Int)) (i0:Int)=some (runN (S.VK a0 i1 i9) (.inl ()) i0 (i1 - i0)):=by
 have hM:=Zo
 have hni1:a0.Zd.length≤maxLen:=(Yy.Zd ha0).1
 have hni9:((a0.Zd.getD i1 default).Zc).length≤maxLen:=(Zi.Zc (LL.getD (Yy.Zd ha0) Zi.dflt i1)).1
 have hni11:i1≤maxLen:=(by omega)
 refine Z6 (n:=i1) (fun i11 hi11=>?_) (fun m hm=>?_) i0
 ·unfold M.VK S.VK
  try simp only [Int.toNat_natCast]
  refine X2 (dt (by omega)) ?_
  refine ZU (JA fun hg=>(ZbZ (a0.Zd.getD i11 default) ((((a0.Zd.getD i1 default).Zc).getD i9 default).ZA) (LL.getD (Yy.Zd ha0) Zi.dflt i11))) (fun r13 her13=>?_)
  refine YD (Zw (JY fun hg=>(dt (by first | omega | (simp; omega) | (simp at *; omega)))) (Zw (JY fun hg=>(dt (by first | omega | (simp; omega) | (simp at *; omega)))) XP)) ?_
  refine XX (fun hb4=>?_) (fun hb4=>?_)
  ·exact XE
  ·exact JZ (by omega)
 ·unfold M.VK
  try simp only [Int.toNat_natCast]
  exact X3 (decide_eq_false (by omega)) rfl
noncomputable def S.VL (a0:ZP) (i1:Nat) (i9:Nat):Option (Unit ⊕ Int) :=
 letS (runN (S.VK a0 i1 i9) (.inl ()) 0 i1) (fun y14=>Sum.elim (fun _=>none) (fun y16=>some (.inr y16)) y14)
theorem Zfb (a0:ZP) (i1:Nat) (ha0:Yy a0) (hi1:i1 < a0.Zd.length) (i0:Nat):loopM (M.VL a0 (i1:Int)) (i0:Int)=some (runN (S.VL a0 i1) (.inl ()) i0 (((a0.Zd.getD i1 default).Zc).length - i0)):=by
 have hM:=Zo
 have hni1:a0.Zd.length≤maxLen:=(Yy.Zd ha0).1
 have hni9:((a0.Zd.getD i1 default).Zc).length≤maxLen:=(Zi.Zc (LL.getD (Yy.Zd ha0) Zi.dflt i1)).1
 refine Z6 (n:=((a0.Zd.getD i1 default).Zc).length) (fun i9 hi9=>?_) (fun m hm=>?_) i0
 ·unfold M.VL S.VL
  try simp only [Int.toNat_natCast]
  refine YD (Zw (dt (by omega)) (Zw (dt (by omega)) XP))  ?_
  refine X2 (dt (by omega)) ?_
  refine YD (Zw (dt (by omega)) (Zw (dt (by omega)) (Zw (dt (by omega)) (Zw (dt (by omega)) XP)))) ?_
  refine ZU (Zfa a0 i1 i9 ha0 hi1 hi9 0) (fun y14 hey14=>?_)
  refine J4 (fun _ hl=>?_) (fun y16 hly16=>?_)
  ·exact JZ (by omega)
  ·exact XE
 ·unfold M.VL
  try simp only [Int.toNat_natCast]
  refine YD (Zw (dt (by omega)) (Zw (dt (by omega)) XP))  ?_
  exact X3 (decide_eq_false (by omega)) rfl
noncomputable def S.VM (a0:ZP) (i1:Nat):Option (Unit ⊕ Int) :=
 letS (S.Q0 (a0.Zd.getD i1 default)) (fun r3=>bif r3 != 0 then (some (.inr r3)) else (letS (runN (S.Wd a0 i1) (.inl ()) 0 i1) (fun y6=>Sum.elim (fun _=>letS (runN (S.VL a0 i1) (.inl ()) 0 (((a0.Zd.getD i1 default).Zc).length)) (fun y17=>Sum.elim (fun _=>none) (fun y19=>some (.inr y19)) y17)) (fun y8=>some (.inr y8)) y6)))
theorem Zfc (a0:ZP) (ha0:Yy a0) (i0:Nat):loopM (M.VM a0) (i0:Int)=some (runN (S.VM a0) (.inl ()) i0 (a0.Zd.length - i0)):=by
 have hM:=Zo
 have hni1:a0.Zd.length≤maxLen:=(Yy.Zd ha0).1
 refine Z6 (n:=a0.Zd.length) (fun i1 hi1=>?_) (fun m hm=>?_) i0
 ·unfold M.VM S.VM
  try simp only [Int.toNat_natCast]
  refine X2 (dt (by omega)) ?_
  refine ZU (Zdr (a0.Zd.getD i1 default) (LL.getD (Yy.Zd ha0) Zi.dflt i1)) (fun r3 her3=>?_)
  refine YD (Zw (dt (by omega)) (Zw (dt (by omega)) XP)) ?_
  refine XX (fun hb2=>?_) (fun hb2=>?_)
  ·exact XE
  ·refine ZU (Ze9 a0 i1 ha0 hi1 0) (fun y6 hey6=>?_)
   refine J4 (fun _ hl=>?_) (fun y8 hly8=>?_)
   ·refine ZU (Zfb a0 i1 ha0 hi1 0) (fun y17 hey17=>?_)
    refine J4 (fun _ hl=>?_) (fun y19 hly19=>?_)
    ·exact JZ (by omega)
    ·exact XE
   ·exact XE
 ·unfold M.VM
  try simp only [Int.toNat_natCast]
  exact X3 (decide_eq_false (by omega)) rfl
noncomputable def S.Wl (a0:ZP):Int :=
 bif decide ((a0.Zd.length:Int) > 8) then 7 else (letS (runN (S.VM a0) (.inl ()) 0 a0.Zd.length) (fun y20=>Sum.elim (fun _=>0) (fun y22=>y22) y20))
theorem ZhA (a0:ZP) (ha0:Yy a0):M.Wl a0=some (S.Wl a0):=by
 have hM:=Zo
 unfold M.Wl S.Wl
 refine Jp (fun hb1=>?_) (fun hb1=>?_)
 ·rfl
 ·refine Z3 (Zfc a0 ha0 0) (fun y20 hey20=>?_)
  refine QG (fun _ hl=>?_) (fun y22 hly22=>?_)
  ·rfl
  ·rfl
noncomputable def S.WF (a0:ZO) (a1:ZO):Int :=
 bif (decide (a0.ZA < a1.ZA))||((a0.ZA==a1.ZA)&&(decide (a0.ZM < a1.ZM))) then (-1) else (bif ((a0.ZA==a1.ZA)&&((a0.ZM==a1.ZM)&&true)) then 0 else 1)
theorem Zgg (a0:ZO) (a1:ZO) :M.WF a0 a1=some (S.WF a0 a1):=by
 have hM:=Zo
 unfold M.WF S.WF
 refine Jp (fun hb1=>?_) (fun hb1=>?_)
 ·rfl
 ·refine Jp (fun hb2=>?_) (fun hb2=>?_)
  ·rfl
  ·rfl
noncomputable def S.V5 (a0:Int):Bool :=
 ((decide (65≤a0))&&(decide (a0≤90)))||((decide (97≤a0))&&(decide (a0≤122)))
theorem ZcW (a0:Int) :M.V5 a0=some (S.V5 a0):=by
 have hM:=Zo
 unfold M.V5 S.V5
 rfl
noncomputable def S.Us (a0:Int):Bool :=
 (decide (48≤a0))&&(decide (a0≤57))
theorem ZhB (a0:Int) :M.Us a0=some (S.Us a0):=by
 have hM:=Zo
 unfold M.Us S.Us
 rfl
noncomputable def S.Wm (a0:ByteArray) (i2:Nat):Option (Unit ⊕ Bool) :=
 letS (S.V5 (byteAt a0 (i2:Int))) (fun r4=>letS (bif (!r4) then S.Us (byteAt a0 (i2:Int)) else default) (fun r5=>bif (((((!r4)&&(!r5))&&((byteAt a0 (i2:Int)) != 45))&&((byteAt a0 (i2:Int)) != 95))&&((byteAt a0 (i2:Int)) != 47))&&((byteAt a0 (i2:Int)) != 46) then (some (.inr false)) else none))
theorem Zgh (a0:ByteArray) (ha0:a0.size≤maxLen) (i0:Nat):loopM (M.Wm a0) (i0:Int)=some (runN (S.Wm a0) (.inl ()) i0 (a0.size - i0)):=by
 have hM:=Zo
 have hni2:a0.size≤maxLen:=ha0
 refine Z6 (n:=a0.size) (fun i2 hi2=>?_) (fun m hm=>?_) i0
 ·unfold M.Wm S.Wm
  try simp only [Int.toNat_natCast]
  refine X2 (dt (by omega)) ?_
  refine YD (Zw (dt (by omega)) (Zw (dt (by omega)) XP)) ?_
  refine ZU (ZcW (byteAt a0 (i2:Int))) (fun r4 her4=>?_)
  refine ZU (JA fun hg=>(ZhB (byteAt a0 (i2:Int)))) (fun r5 her5=>?_)
  refine XX (fun hb2=>?_) (fun hb2=>?_)
  ·exact XE
  ·exact JZ (by omega)
 ·unfold M.Wm
  try simp only [Int.toNat_natCast]
  exact X3 (decide_eq_false (by omega)) rfl
noncomputable def S.Ww (a0:ByteArray):Bool :=
 letS (bif (!((decide ((a0.size:Int) < 1))||(decide ((a0.size:Int) > 15)))) then S.V5 (byteAt a0 0) else default) (fun r1=>bif ((decide ((a0.size:Int) < 1))||(decide ((a0.size:Int) > 15)))||(!r1) then false else (letS (runN (S.Wm a0) (.inl ()) 1 (a0.size - 1)) (fun y6=>Sum.elim (fun _=>true) (fun y8=>y8) y6)))
theorem Zb0 (a0:ByteArray) (ha0:a0.size≤maxLen):M.Ww a0=some (S.Ww a0):=by
 have hM:=Zo
 unfold M.Ww S.Ww
 refine Z3 (JA fun hg=>(ZcW (byteAt a0 0))) (fun r1 her1=>?_)
 refine YD (Zw (JY fun hg=>(dt (by first | omega | (simp; omega) | (simp at *; omega)))) (Zw (JY fun hg=>(dt (by first | omega | (simp; omega) | (simp at *; omega)))) XP)) ?_
 refine Jp (fun hb1=>?_) (fun hb1=>?_)
 ·rfl
 ·refine Z3 (Zgh a0 ha0 1) (fun y6 hey6=>?_)
  refine QG (fun _ hl=>?_) (fun y8 hly8=>?_)
  ·rfl
  ·rfl
noncomputable def S.ZV (a0:Int) (a1:Int) (a2:Int):Bool :=
 (decide (a1≤a0))&&(decide (a0≤a2))
theorem X0 (a0:Int) (a1:Int) (a2:Int) :M.ZV a0 a1 a2=some (S.ZV a0 a1 a2):=by
 have hM:=Zo
 unfold M.ZV S.ZV
 rfl
noncomputable def S.JH (a0:Zx) (b0:ByteArray):Bool :=
 strEq a0.ZH b0
theorem ZcG (a0:Zx) (b0:ByteArray) (ha0:Xp a0) (hb0:b0.size≤maxLen):M.JH a0 b0=some (S.JH a0 b0):=by
 have hM:=Zo
 unfold M.JH S.JH
 rfl
noncomputable def S.ZG (a0:List Zx) (a1c0:ByteArray) (i1:Nat):Option (Unit ⊕ Int) :=
 letS (S.JH (a0.getD i1 default) a1c0) (fun r3=>bif r3 then (some (.inr (i1:Int))) else none)
theorem VO (a0:List Zx) (a1c0:ByteArray) (ha0:LL Xp a0) (ha1c0:a1c0.size≤maxLen) (i0:Nat):loopM (M.ZG a0 a1c0) (i0:Int)=some (runN (S.ZG a0 a1c0) (.inl ()) i0 (a0.length - i0)):=by
 have hM:=Zo
 have hni1:a0.length≤maxLen:=ha0.1
 refine Z6 (n:=a0.length) (fun i1 hi1=>?_) (fun m hm=>?_) i0
 ·unfold M.ZG S.ZG
  try simp only [Int.toNat_natCast]
  refine X2 (dt (by omega)) ?_
  refine ZU (ZcG (a0.getD i1 default) a1c0 (LL.getD ha0 Xp.dflt i1) ha1c0) (fun r3 her3=>?_)
  refine YD (Zw (dt (by omega)) (Zw (dt (by omega)) XP)) ?_
  refine XX (fun hb1=>?_) (fun hb1=>?_)
  ·exact XE
  ·exact JZ (by omega)
 ·unfold M.ZG
  try simp only [Int.toNat_natCast]
  exact X3 (decide_eq_false (by omega)) rfl
noncomputable def S.ZI (a0:List Zx) (a1c0:ByteArray):Int :=
 letS (runN (S.ZG a0 a1c0) (.inl ()) 0 a0.length) (fun y4=>Sum.elim (fun _=>-1) (fun y6=>y6) y4)
theorem V7 (a0:List Zx) (a1c0:ByteArray) (ha0:LL Xp a0) (ha1c0:a1c0.size≤maxLen):M.ZI a0 a1c0=some (S.ZI a0 a1c0):=by
 have hM:=Zo
 unfold M.ZI S.ZI
 refine Z3 (VO a0 a1c0 ha0 ha1c0 0) (fun y4 hey4=>?_)
 refine QG (fun _ hl=>?_) (fun y6 hly6=>?_)
 ·rfl
 ·rfl
noncomputable def S.Ql (a0:Zf) (a1:ByteArray):Int :=
 letS (S.ZI a0.Zc a1) (fun r1=>r1)
theorem RJ (a0:Zf) (a1:ByteArray) (ha0:Zi a0) (ha1:a1.size≤maxLen):M.Ql a0 a1=some (S.Ql a0 a1):=by
 have hM:=Zo
 unfold M.Ql S.Ql
 refine Z3 (V7 a0.Zc a1 (Zi.Zc ha0) ha1) (fun r1 her1=>?_)
 rfl
theorem KI (a0:Zf) (a1:ByteArray):S.Ql a0 a1 < (a0.Zc.length:Int):=by
 unfold S.Ql S.ZI
 simp only [letS]
 exact Zld (fun i=>by unfold S.ZG; simp only [letS]; cases S.JH (a0.Zc.getD i default) a1 <;> simp) _
noncomputable def S.Qw (a0:Zx):Bool :=
 letS (S.ZV a0.ZM 0 32) (fun r1=>letS (bif (!(!r1)) then S.ZV a0.XI 0 4094 else default) (fun r2=>letS (bif (!((!r1)||(!r2))) then S.ZV a0.R6 0 2 else default) (fun r3=>bif ((!r1)||(!r2))||(!r3) then false else (bif (a0.ZM==0)&&(((((((a0.ZA != 0)||(a0.XI != 0))||(a0.R6 != 0))||a0.X5)||a0.Ye)||(!strEq a0.VE (⟨#[]⟩:ByteArray)))||(!strEq a0.YH (⟨#[]⟩:ByteArray))) then false else (bif (a0.ZM != 0)&&(a0.ZA==0) then false else (bif a0.X5 then (letS (S.ZV a0.Vb 0 255) (fun r4=>letS (bif r4 then S.ZV a0.RC 1 65535 else default) (fun r5=>r4&&r5))) else ((a0.Vb==0)&&(a0.RC==0))))))))
theorem ZaR (a0:Zx) (ha0:Xp a0):M.Qw a0=some (S.Qw a0):=by
 have hM:=Zo
 unfold M.Qw S.Qw
 refine Z3 (X0 a0.ZM 0 32) (fun r1 her1=>?_)
 refine Z3 (JA fun hg=>(X0 a0.XI 0 4094)) (fun r2 her2=>?_)
 refine Z3 (JA fun hg=>(X0 a0.R6 0 2)) (fun r3 her3=>?_)
 refine Jp (fun hb1=>?_) (fun hb1=>?_)
 ·rfl
 ·refine Jp (fun hb2=>?_) (fun hb2=>?_)
  ·rfl
  ·refine Jp (fun hb3=>?_) (fun hb3=>?_)
   ·rfl
   ·refine Jp (fun hb4=>?_) (fun hb4=>?_)
    ·refine Z3 (X0 a0.Vb 0 255) (fun r4 her4=>?_)
     refine Z3 (JA fun hg=>(X0 a0.RC 1 65535)) (fun r5 her5=>?_)
     rfl
    ·rfl
noncomputable def S.YY (a0:Int) (a1:Int):ZO :=
 letS (S.J7 a1) (fun r1=>letS (S.JO a1) (fun r2=>(⟨bitD .and .u32 a0 r1,r2⟩:ZO)))
theorem Rg (a0:Int) (a1:Int) :M.YY a0 a1=some (S.YY a0 a1):=by
 have hM:=Zo
 unfold M.YY S.YY
 refine Z3 (ZbT a1) (fun r1 her1=>?_)
 refine Z3 (Zd0 a1) (fun r2 her2=>?_)
 rfl
noncomputable def S.WG (a0:ZO) (a1:Int):Bool :=
 letS (S.J7 a0.ZM) (fun r1=>(bitD .and .u32 a1 r1)==a0.ZA)
theorem Zfd (a0:ZO) (a1:Int) :M.WG a0 a1=some (S.WG a0 a1):=by
 have hM:=Zo
 unfold M.WG S.WG
 refine Z3 (ZbT a0.ZM) (fun r1 her1=>?_)
 rfl
noncomputable def S.WJ (a0:ZO) (a1:ZO):Bool :=
 letS (bif (decide (a0.ZM≤a1.ZM)) then S.WG a0 a1.ZA else default) (fun r1=>(decide (a0.ZM≤a1.ZM))&&r1)
theorem ZcX (a0:ZO) (a1:ZO) :M.WJ a0 a1=some (S.WJ a0 a1):=by
 have hM:=Zo
 unfold M.WJ S.WJ
 refine Z3 (JA fun hg=>(Zfd a0 a1.ZA)) (fun r1 her1=>?_)
 rfl
noncomputable def S.Vk (a0:ZO) (a1:ZO):Bool :=
 letS (S.WJ a0 a1) (fun r1=>letS (bif (!r1) then S.WJ a1 a0 else default) (fun r2=>r1||r2))
theorem Za3 (a0:ZO) (a1:ZO) :M.Vk a0 a1=some (S.Vk a0 a1):=by
 have hM:=Zo
 unfold M.Vk S.Vk
 refine Z3 (ZcX a0 a1) (fun r1 her1=>?_)
 refine Z3 (JA fun hg=>(ZcX a1 a0)) (fun r2 her2=>?_)
 rfl
noncomputable def S.Yo (a0:Zf) (i1:Nat) (i6:Nat):Option (Unit ⊕ Int) :=
 letS (bif ((((a0.Zc.getD i1 default).ZM) != 0)&&(((((a0.Zc.drop 0).take (i1 - 0)).getD i6 default).ZM) != 0)) then S.YY ((a0.Zc.getD i1 default).ZA) ((a0.Zc.getD i1 default).ZM) else default) (fun r8=>letS (bif ((((a0.Zc.getD i1 default).ZM) != 0)&&(((((a0.Zc.drop 0).take (i1 - 0)).getD i6 default).ZM) != 0)) then S.YY ((((a0.Zc.drop 0).take (i1 - 0)).getD i6 default).ZA) ((((a0.Zc.drop 0).take (i1 - 0)).getD i6 default).ZM) else default) (fun r9=>letS (bif ((((a0.Zc.getD i1 default).ZM) != 0)&&(((((a0.Zc.drop 0).take (i1 - 0)).getD i6 default).ZM) != 0)) then S.Vk r8 r9 else default) (fun r10=>bif ((((a0.Zc.getD i1 default).ZM) != 0)&&(((((a0.Zc.drop 0).take (i1 - 0)).getD i6 default).ZM) != 0))&&r10 then (some (.inr 6)) else none)))
theorem Rh (a0:Zf) (i1:Nat) (ha0:Zi a0) (hi1:i1 < a0.Zc.length) (i0:Nat):loopM (M.Yo a0 (i1:Int)) (i0:Int)=some (runN (S.Yo a0 i1) (.inl ()) i0 (i1 - i0)):=by
 have hM:=Zo
 have hni1:a0.Zc.length≤maxLen:=(Zi.Zc ha0).1
 have hni6:i1≤maxLen:=(by omega)
 refine Z6 (n:=i1) (fun i6 hi6=>?_) (fun m hm=>?_) i0
 ·unfold M.Yo S.Yo
  try simp only [Int.toNat_natCast]
  refine X2 (dt (by omega)) ?_
  refine YD (Zw (dt (by omega)) (Zw (dt (by simp; omega)) XP)) ?_
  refine ZU (JA fun hg=>(Rg ((a0.Zc.getD i1 default).ZA) ((a0.Zc.getD i1 default).ZM))) (fun r8 her8=>?_)
  refine ZU (JA fun hg=>(Rg ((((a0.Zc.drop 0).take (i1 - 0)).getD i6 default).ZA) ((((a0.Zc.drop 0).take (i1 - 0)).getD i6 default).ZM))) (fun r9 her9=>?_)
  refine ZU (JA fun hg=>(Za3 r8 r9)) (fun r10 her10=>?_)
  refine XX (fun hb5=>?_) (fun hb5=>?_)
  ·exact XE
  ·exact JZ (by omega)
 ·unfold M.Yo
  try simp only [Int.toNat_natCast]
  exact X3 (decide_eq_false (by omega)) rfl
noncomputable def S.YE (a0:Zf) (i1:Nat):Option (Unit ⊕ Int) :=
 letS (S.Ww ((a0.Zc.getD i1 default).ZH)) (fun r3=>bif !r3 then (some (.inr 3)) else (letS (S.Ql a0 ((a0.Zc.getD i1 default).ZH)) (fun r4=>bif decide (r4 < (i1:Int)) then (some (.inr 4)) else (letS (S.Qw (a0.Zc.getD i1 default)) (fun r5=>bif !r5 then (some (.inr 1)) else (letS (runN (S.Yo a0 i1) (.inl ()) 0 i1) (fun y11=>Sum.elim (fun _=>none) (fun y13=>some (.inr y13)) y11)))))))
theorem Ri (a0:Zf) (ha0:Zi a0) (i0:Nat):loopM (M.YE a0) (i0:Int)=some (runN (S.YE a0) (.inl ()) i0 (a0.Zc.length - i0)):=by
 have hM:=Zo
 have hni1:a0.Zc.length≤maxLen:=(Zi.Zc ha0).1
 refine Z6 (n:=a0.Zc.length) (fun i1 hi1=>?_) (fun m hm=>?_) i0
 ·unfold M.YE S.YE
  try simp only [Int.toNat_natCast]
  refine X2 (dt (by omega)) ?_
  refine YD (Zw (dt (by omega)) (Zw (dt (by omega)) XP)) ?_
  refine ZU (Zb0 ((a0.Zc.getD i1 default).ZH) (Xp.ZH (LL.getD (Zi.Zc ha0) Xp.dflt i1))) (fun r3 her3=>?_)
  refine XX (fun hb2=>?_) (fun hb2=>?_)
  ·exact XE
  ·refine ZU (RJ a0 ((a0.Zc.getD i1 default).ZH) ha0 (Xp.ZH (LL.getD (Zi.Zc ha0) Xp.dflt i1))) (fun r4 her4=>?_)
   have hrr4:=KI a0 ((a0.Zc.getD i1 default).ZH)
   refine XX (fun hb3=>?_) (fun hb3=>?_)
   ·exact XE
   ·refine ZU (ZaR (a0.Zc.getD i1 default) (LL.getD (Zi.Zc ha0) Xp.dflt i1)) (fun r5 her5=>?_)
    refine XX (fun hb4=>?_) (fun hb4=>?_)
    ·exact XE
    ·refine YD (Zw (dt (by omega)) (Zw (dt (by omega)) XP)) ?_
     refine ZU (Rh a0 i1 ha0 hi1 0) (fun y11 hey11=>?_)
     refine J4 (fun _ hl=>?_) (fun y13 hly13=>?_)
     ·exact JZ (by omega)
     ·exact XE
 ·unfold M.YE
  try simp only [Int.toNat_natCast]
  exact X3 (decide_eq_false (by omega)) rfl
noncomputable def S.YM (a0:Zf):Int :=
 bif decide ((a0.Zc.length:Int) > 8) then 7 else (letS (runN (S.YE a0) (.inl ()) 0 a0.Zc.length) (fun y14=>Sum.elim (fun _=>0) (fun y16=>y16) y14))
theorem Zak (a0:Zf) (ha0:Zi a0):M.YM a0=some (S.YM a0):=by
 have hM:=Zo
 unfold M.YM S.YM
 refine Jp (fun hb1=>?_) (fun hb1=>?_)
 ·rfl
 ·refine Z3 (Ri a0 ha0 0) (fun y14 hey14=>?_)
  refine QG (fun _ hl=>?_) (fun y16 hly16=>?_)
  ·rfl
  ·rfl
noncomputable def S.JP (a0:ZD) (b0:ByteArray):Bool :=
 strEq a0.ZH b0
theorem Zb1 (a0:ZD) (b0:ByteArray) (ha0:X7 a0) (hb0:b0.size≤maxLen):M.JP a0 b0=some (S.JP a0 b0):=by
 have hM:=Zo
 unfold M.JP S.JP
 rfl
noncomputable def S.ZJ (a0:List ZD) (a1c0:ByteArray) (i1:Nat):Option (Unit ⊕ Int) :=
 letS (S.JP (a0.getD i1 default) a1c0) (fun r3=>bif r3 then (some (.inr (i1:Int))) else none)
theorem Vv (a0:List ZD) (a1c0:ByteArray) (ha0:LL X7 a0) (ha1c0:a1c0.size≤maxLen) (i0:Nat):loopM (M.ZJ a0 a1c0) (i0:Int)=some (runN (S.ZJ a0 a1c0) (.inl ()) i0 (a0.length - i0)):=by
 have hM:=Zo
 have hni1:a0.length≤maxLen:=ha0.1
 refine Z6 (n:=a0.length) (fun i1 hi1=>?_) (fun m hm=>?_) i0
 ·unfold M.ZJ S.ZJ
  try simp only [Int.toNat_natCast]
  refine X2 (dt (by omega)) ?_
  refine ZU (Zb1 (a0.getD i1 default) a1c0 (LL.getD ha0 X7.dflt i1) ha1c0) (fun r3 her3=>?_)
  refine YD (Zw (dt (by omega)) (Zw (dt (by omega)) XP)) ?_
  refine XX (fun hb1=>?_) (fun hb1=>?_)
  ·exact XE
  ·exact JZ (by omega)
 ·unfold M.ZJ
  try simp only [Int.toNat_natCast]
  exact X3 (decide_eq_false (by omega)) rfl
noncomputable def S.ZQ (a0:List ZD) (a1c0:ByteArray):Int :=
 letS (runN (S.ZJ a0 a1c0) (.inl ()) 0 a0.length) (fun y4=>Sum.elim (fun _=>-1) (fun y6=>y6) y4)
theorem VP (a0:List ZD) (a1c0:ByteArray) (ha0:LL X7 a0) (ha1c0:a1c0.size≤maxLen):M.ZQ a0 a1c0=some (S.ZQ a0 a1c0):=by
 have hM:=Zo
 unfold M.ZQ S.ZQ
 refine Z3 (Vv a0 a1c0 ha0 ha1c0 0) (fun y4 hey4=>?_)
 refine QG (fun _ hl=>?_) (fun y6 hly6=>?_)
 ·rfl
 ·rfl
noncomputable def S.Yu (a0:Zf) (a1:ByteArray):Int :=
 letS (S.ZQ a0.Xi a1) (fun r1=>r1)
theorem UZ (a0:Zf) (a1:ByteArray) (ha0:Zi a0) (ha1:a1.size≤maxLen):M.Yu a0 a1=some (S.Yu a0 a1):=by
 have hM:=Zo
 unfold M.Yu S.Yu
 refine Z3 (VP a0.Xi a1 (Zi.Xi ha0) ha1) (fun r1 her1=>?_)
 rfl
noncomputable def S.YV (a0:Int) (a1:Int) (a2:ByteArray) (a3:Int) (a4:Int):Int :=
 letS (S.Ww a2) (fun r1=>bif !r1 then 3 else (bif decide (a1 < a0) then 4 else (bif a3==0 then 1 else (bif decide (a3 > a4) then 7 else 0))))
theorem Kk (a0:Int) (a1:Int) (a2:ByteArray) (a3:Int) (a4:Int) (ha2:a2.size≤maxLen):M.YV a0 a1 a2 a3 a4=some (S.YV a0 a1 a2 a3 a4):=by
 have hM:=Zo
 unfold M.YV S.YV
 refine Z3 (Zb0 a2 ha2) (fun r1 her1=>?_)
 refine Jp (fun hb1=>?_) (fun hb1=>?_)
 ·rfl
 ·refine Jp (fun hb2=>?_) (fun hb2=>?_)
  ·rfl
  ·refine Jp (fun hb3=>?_) (fun hb3=>?_)
   ·rfl
   ·refine Jp (fun hb4=>?_) (fun hb4=>?_)
    ·rfl
    ·rfl
noncomputable def S.QW (a0:ZO):Bool :=
 letS (bif ((decide (a0.ZM ≥ 0))&&(decide (a0.ZM≤32))) then S.J7 a0.ZM else default) (fun r1=>((decide (a0.ZM ≥ 0))&&(decide (a0.ZM≤32)))&&((bitD .andNot .u32 a0.ZA r1)==0))
theorem U0 (a0:ZO) :M.QW a0=some (S.QW a0):=by
 have hM:=Zo
 unfold M.QW S.QW
 refine Z3 (JA fun hg=>(ZbT a0.ZM)) (fun r1 her1=>?_)
 rfl
noncomputable def S.Yi (a0:Zf) (i1:Nat) (i5:Nat):Option (Unit ⊕ Int) :=
 letS (S.QW ((((a0.Xi.getD i1 default).Xv).getD i5 default).Zp)) (fun r7=>bif (((!r7)||(decide (((((a0.Xi.getD i1 default).Xv).getD i5 default).Zcp) < (((((a0.Xi.getD i1 default).Xv).getD i5 default).Zp).ZM))))||(decide (((((a0.Xi.getD i1 default).Xv).getD i5 default).Zcq) < ((((a0.Xi.getD i1 default).Xv).getD i5 default).Zcp))))||(decide (((((a0.Xi.getD i1 default).Xv).getD i5 default).Zcq) > 32)) then (some (.inr 1)) else none)
theorem KS (a0:Zf) (i1:Nat) (ha0:Zi a0) (hi1:i1 < a0.Xi.length) (i0:Nat):loopM (M.Yi a0 (i1:Int)) (i0:Int)=some (runN (S.Yi a0 i1) (.inl ()) i0 (((a0.Xi.getD i1 default).Xv).length - i0)):=by
 have hM:=Zo
 have hni1:a0.Xi.length≤maxLen:=(Zi.Xi ha0).1
 have hni5:((a0.Xi.getD i1 default).Xv).length≤maxLen:=(X7.Xv (LL.getD (Zi.Xi ha0) X7.dflt i1))
 refine Z6 (n:=((a0.Xi.getD i1 default).Xv).length) (fun i5 hi5=>?_) (fun m hm=>?_) i0
 ·unfold M.Yi S.Yi
  try simp only [Int.toNat_natCast]
  refine X2 (dt (by omega)) ?_
  refine YD (Zw (dt (by omega)) (Zw (dt (by omega)) XP)) ?_
  refine ZU (U0 ((((a0.Xi.getD i1 default).Xv).getD i5 default).Zp)) (fun r7 her7=>?_)
  refine XX (fun hb3=>?_) (fun hb3=>?_)
  ·exact XE
  ·exact JZ (by omega)
 ·unfold M.Yi
  try simp only [Int.toNat_natCast]
  exact X3 (decide_eq_false (by omega)) rfl
noncomputable def S.Ys (a0:Zf) (i1:Nat):Option (Unit ⊕ Int) :=
 letS (S.Yu a0 ((a0.Xi.getD i1 default).ZH)) (fun r3=>letS (S.YV (i1:Int) r3 ((a0.Xi.getD i1 default).ZH) (((a0.Xi.getD i1 default).Xv).length:Int) 16) (fun r4=>bif r4 != 0 then (some (.inr r4)) else (letS (runN (S.Yi a0 i1) (.inl ()) 0 (((a0.Xi.getD i1 default).Xv).length)) (fun y8=>Sum.elim (fun _=>none) (fun y10=>some (.inr y10)) y8))))
theorem KT (a0:Zf) (ha0:Zi a0) (i0:Nat):loopM (M.Ys a0) (i0:Int)=some (runN (S.Ys a0) (.inl ()) i0 (a0.Xi.length - i0)):=by
 have hM:=Zo
 have hni1:a0.Xi.length≤maxLen:=(Zi.Xi ha0).1
 refine Z6 (n:=a0.Xi.length) (fun i1 hi1=>?_) (fun m hm=>?_) i0
 ·unfold M.Ys S.Ys
  try simp only [Int.toNat_natCast]
  refine X2 (dt (by omega)) ?_
  refine YD (Zw (dt (by omega)) (Zw (dt (by omega)) XP)) ?_
  refine ZU (UZ a0 ((a0.Xi.getD i1 default).ZH) ha0 (X7.ZH (LL.getD (Zi.Xi ha0) X7.dflt i1))) (fun r3 her3=>?_)
  refine ZU (Kk (i1:Int) r3 ((a0.Xi.getD i1 default).ZH) (((a0.Xi.getD i1 default).Xv).length:Int) 16 (X7.ZH (LL.getD (Zi.Xi ha0) X7.dflt i1))) (fun r4 her4=>?_)
  refine XX (fun hb2=>?_) (fun hb2=>?_)
  ·exact XE
  ·refine ZU (KS a0 i1 ha0 hi1 0) (fun y8 hey8=>?_)
   refine J4 (fun _ hl=>?_) (fun y10 hly10=>?_)
   ·exact JZ (by omega)
   ·exact XE
 ·unfold M.Ys
  try simp only [Int.toNat_natCast]
  exact X3 (decide_eq_false (by omega)) rfl
noncomputable def S.YF (a0:Zf):Int :=
 bif decide ((a0.Xi.length:Int) > 8) then 7 else (letS (runN (S.Ys a0) (.inl ()) 0 a0.Xi.length) (fun y11=>Sum.elim (fun _=>0) (fun y13=>y13) y11))
theorem RW (a0:Zf) (ha0:Zi a0):M.YF a0=some (S.YF a0):=by
 have hM:=Zo
 unfold M.YF S.YF
 refine Jp (fun hb1=>?_) (fun hb1=>?_)
 ·rfl
 ·refine Z3 (KT a0 ha0 0) (fun y11 hey11=>?_)
  refine QG (fun _ hl=>?_) (fun y13 hly13=>?_)
  ·rfl
  ·rfl
noncomputable def S.Vp (a0:Xw) (b0:ByteArray):Bool :=
 strEq a0.ZH b0
theorem Zds (a0:Xw) (b0:ByteArray) (ha0:Ym a0) (hb0:b0.size≤maxLen):M.Vp a0 b0=some (S.Vp a0 b0):=by
 have hM:=Zo
 unfold M.Vp S.Vp
 rfl
noncomputable def S.ZZ (a0:List Xw) (a1c0:ByteArray) (i1:Nat):Option (Unit ⊕ Int) :=
 letS (S.Vp (a0.getD i1 default) a1c0) (fun r3=>bif r3 then (some (.inr (i1:Int))) else none)
theorem V8 (a0:List Xw) (a1c0:ByteArray) (ha0:LL Ym a0) (ha1c0:a1c0.size≤maxLen) (i0:Nat):loopM (M.ZZ a0 a1c0) (i0:Int)=some (runN (S.ZZ a0 a1c0) (.inl ()) i0 (a0.length - i0)):=by
 have hM:=Zo
 have hni1:a0.length≤maxLen:=ha0.1
 refine Z6 (n:=a0.length) (fun i1 hi1=>?_) (fun m hm=>?_) i0
 ·unfold M.ZZ S.ZZ
  try simp only [Int.toNat_natCast]
  refine X2 (dt (by omega)) ?_
  refine ZU (Zds (a0.getD i1 default) a1c0 (LL.getD ha0 Ym.dflt i1) ha1c0) (fun r3 her3=>?_)
  refine YD (Zw (dt (by omega)) (Zw (dt (by omega)) XP)) ?_
  refine XX (fun hb1=>?_) (fun hb1=>?_)
  ·exact XE
  ·exact JZ (by omega)
 ·unfold M.ZZ
  try simp only [Int.toNat_natCast]
  exact X3 (decide_eq_false (by omega)) rfl
noncomputable def S.Z4 (a0:List Xw) (a1c0:ByteArray):Int :=
 letS (runN (S.ZZ a0 a1c0) (.inl ()) 0 a0.length) (fun y4=>Sum.elim (fun _=>-1) (fun y6=>y6) y4)
theorem Wp (a0:List Xw) (a1c0:ByteArray) (ha0:LL Ym a0) (ha1c0:a1c0.size≤maxLen):M.Z4 a0 a1c0=some (S.Z4 a0 a1c0):=by
 have hM:=Zo
 unfold M.Z4 S.Z4
 refine Z3 (V8 a0 a1c0 ha0 ha1c0 0) (fun y4 hey4=>?_)
 refine QG (fun _ hl=>?_) (fun y6 hly6=>?_)
 ·rfl
 ·rfl
noncomputable def S.Y8 (a0:Zf) (a1:ByteArray):Int :=
 letS (S.Z4 a0.Z9 a1) (fun r1=>r1)
theorem Gz (a0:Zf) (a1:ByteArray) (ha0:Zi a0) (ha1:a1.size≤maxLen):M.Y8 a0 a1=some (S.Y8 a0 a1):=by
 have hM:=Zo
 unfold M.Y8 S.Y8
 refine Z3 (Wp a0.Z9 a1 (Zi.Z9 ha0) ha1) (fun r1 her1=>?_)
 rfl
noncomputable def S.Jf (a0:Ub):Bool :=
 letS (S.ZV a0.Gd (-1) 65535) (fun r1=>letS (bif r1 then S.ZV a0.W1 (-1) 16777215 else default) (fun r2=>letS (bif (r1&&r2) then S.ZV a0.G9 (-1) 65535 else default) (fun r3=>letS (bif ((r1&&r2)&&r3) then S.ZV a0.Gl (-1) 1000000 else default) (fun r4=>letS (bif (((r1&&r2)&&r3)&&r4) then S.ZV a0.Gm 0 8 else default) (fun r5=>(((r1&&r2)&&r3)&&r4)&&r5)))))
theorem ZcH (a0:Ub) (ha0:WX a0):M.Jf a0=some (S.Jf a0):=by
 have hM:=Zo
 unfold M.Jf S.Jf
 refine Z3 (X0 a0.Gd (-1) 65535) (fun r1 her1=>?_)
 refine Z3 (JA fun hg=>(X0 a0.W1 (-1) 16777215)) (fun r2 her2=>?_)
 refine Z3 (JA fun hg=>(X0 a0.G9 (-1) 65535)) (fun r3 her3=>?_)
 refine Z3 (JA fun hg=>(X0 a0.Gl (-1) 1000000)) (fun r4 her4=>?_)
 refine Z3 (JA fun hg=>(X0 a0.Gm 0 8)) (fun r5 her5=>?_)
 rfl
noncomputable def S.Yv (a0:Zf) (i1:Nat) (i5:Nat):Option (Unit ⊕ Int) :=
 letS (bif (!strEq ((((a0.Z9.getD i1 default).Xj).getD i5 default).QX) (⟨#[]⟩:ByteArray)) then S.Yu a0 ((((a0.Z9.getD i1 default).Xj).getD i5 default).QX) else default) (fun r7=>bif (!strEq ((((a0.Z9.getD i1 default).Xj).getD i5 default).QX) (⟨#[]⟩:ByteArray))&&(decide (r7 < 0)) then (some (.inr 5)) else (letS (S.Jf (((a0.Z9.getD i1 default).Xj).getD i5 default)) (fun r8=>bif !r8 then (some (.inr 1)) else none)))
theorem Rq (a0:Zf) (i1:Nat) (ha0:Zi a0) (hi1:i1 < a0.Z9.length) (i0:Nat):loopM (M.Yv a0 (i1:Int)) (i0:Int)=some (runN (S.Yv a0 i1) (.inl ()) i0 (((a0.Z9.getD i1 default).Xj).length - i0)):=by
 have hM:=Zo
 have hni1:a0.Z9.length≤maxLen:=(Zi.Z9 ha0).1
 have hni5:((a0.Z9.getD i1 default).Xj).length≤maxLen:=(Ym.Xj (LL.getD (Zi.Z9 ha0) Ym.dflt i1)).1
 refine Z6 (n:=((a0.Z9.getD i1 default).Xj).length) (fun i5 hi5=>?_) (fun m hm=>?_) i0
 ·unfold M.Yv S.Yv
  try simp only [Int.toNat_natCast]
  refine X2 (dt (by omega)) ?_
  refine YD (Zw (dt (by omega)) (Zw (dt (by omega)) XP)) ?_
  refine ZU (JA fun hg=>(UZ a0 ((((a0.Z9.getD i1 default).Xj).getD i5 default).QX) ha0 (WX.QX (LL.getD (Ym.Xj (LL.getD (Zi.Z9 ha0) Ym.dflt i1)) WX.dflt i5)))) (fun r7 her7=>?_)
  refine XX (fun hb3=>?_) (fun hb3=>?_)
  ·exact XE
  ·refine ZU (ZcH (((a0.Z9.getD i1 default).Xj).getD i5 default) (LL.getD (Ym.Xj (LL.getD (Zi.Z9 ha0) Ym.dflt i1)) WX.dflt i5)) (fun r8 her8=>?_)
   refine XX (fun hb4=>?_) (fun hb4=>?_)
   ·exact XE
   ·exact JZ (by omega)
 ·unfold M.Yv
  try simp only [Int.toNat_natCast]
  exact X3 (decide_eq_false (by omega)) rfl
noncomputable def S.YJ (a0:Zf) (i1:Nat):Option (Unit ⊕ Int) :=
 letS (S.Y8 a0 ((a0.Z9.getD i1 default).ZH)) (fun r3=>letS (S.YV (i1:Int) r3 ((a0.Z9.getD i1 default).ZH) (((a0.Z9.getD i1 default).Xj).length:Int) 8) (fun r4=>bif r4 != 0 then (some (.inr r4)) else (letS (runN (S.Yv a0 i1) (.inl ()) 0 (((a0.Z9.getD i1 default).Xj).length)) (fun y9=>Sum.elim (fun _=>none) (fun y11=>some (.inr y11)) y9))))
theorem Rr (a0:Zf) (ha0:Zi a0) (i0:Nat):loopM (M.YJ a0) (i0:Int)=some (runN (S.YJ a0) (.inl ()) i0 (a0.Z9.length - i0)):=by
 have hM:=Zo
 have hni1:a0.Z9.length≤maxLen:=(Zi.Z9 ha0).1
 refine Z6 (n:=a0.Z9.length) (fun i1 hi1=>?_) (fun m hm=>?_) i0
 ·unfold M.YJ S.YJ
  try simp only [Int.toNat_natCast]
  refine X2 (dt (by omega)) ?_
  refine YD (Zw (dt (by omega)) (Zw (dt (by omega)) XP)) ?_
  refine ZU (Gz a0 ((a0.Z9.getD i1 default).ZH) ha0 (Ym.ZH (LL.getD (Zi.Z9 ha0) Ym.dflt i1))) (fun r3 her3=>?_)
  refine ZU (Kk (i1:Int) r3 ((a0.Z9.getD i1 default).ZH) (((a0.Z9.getD i1 default).Xj).length:Int) 8 (Ym.ZH (LL.getD (Zi.Z9 ha0) Ym.dflt i1))) (fun r4 her4=>?_)
  refine XX (fun hb2=>?_) (fun hb2=>?_)
  ·exact XE
  ·refine ZU (Rq a0 i1 ha0 hi1 0) (fun y9 hey9=>?_)
   refine J4 (fun _ hl=>?_) (fun y11 hly11=>?_)
   ·exact JZ (by omega)
   ·exact XE
 ·unfold M.YJ
  try simp only [Int.toNat_natCast]
  exact X3 (decide_eq_false (by omega)) rfl
noncomputable def S.Y9 (a0:Zf):Int :=
 bif decide ((a0.Z9.length:Int) > 8) then 7 else (letS (runN (S.YJ a0) (.inl ()) 0 a0.Z9.length) (fun y12=>Sum.elim (fun _=>0) (fun y14=>y14) y12))
theorem ZaS (a0:Zf) (ha0:Zi a0):M.Y9 a0=some (S.Y9 a0):=by
 have hM:=Zo
 unfold M.Y9 S.Y9
 refine Jp (fun hb1=>?_) (fun hb1=>?_)
 ·rfl
 ·refine Z3 (Rr a0 ha0 0) (fun y12 hey12=>?_)
  refine QG (fun _ hl=>?_) (fun y14 hly14=>?_)
  ·rfl
  ·rfl
noncomputable def S.Um (a0:V2) (b0:ByteArray):Bool :=
 strEq a0.ZH b0
theorem ZgA (a0:V2) (b0:ByteArray) (ha0:Wz a0) (hb0:b0.size≤maxLen):M.Um a0 b0=some (S.Um a0 b0):=by
 have hM:=Zo
 unfold M.Um S.Um
 rfl
noncomputable def S.Xm (a0:List V2) (a1c0:ByteArray) (i1:Nat):Option (Unit ⊕ Int) :=
 letS (S.Um (a0.getD i1 default) a1c0) (fun r3=>bif r3 then (some (.inr (i1:Int))) else none)
theorem W9 (a0:List V2) (a1c0:ByteArray) (ha0:LL Wz a0) (ha1c0:a1c0.size≤maxLen) (i0:Nat):loopM (M.Xm a0 a1c0) (i0:Int)=some (runN (S.Xm a0 a1c0) (.inl ()) i0 (a0.length - i0)):=by
 have hM:=Zo
 have hni1:a0.length≤maxLen:=ha0.1
 refine Z6 (n:=a0.length) (fun i1 hi1=>?_) (fun m hm=>?_) i0
 ·unfold M.Xm S.Xm
  try simp only [Int.toNat_natCast]
  refine X2 (dt (by omega)) ?_
  refine ZU (ZgA (a0.getD i1 default) a1c0 (LL.getD ha0 Wz.dflt i1) ha1c0) (fun r3 her3=>?_)
  refine YD (Zw (dt (by omega)) (Zw (dt (by omega)) XP)) ?_
  refine XX (fun hb1=>?_) (fun hb1=>?_)
  ·exact XE
  ·exact JZ (by omega)
 ·unfold M.Xm
  try simp only [Int.toNat_natCast]
  exact X3 (decide_eq_false (by omega)) rfl
noncomputable def S.Xu (a0:List V2) (a1c0:ByteArray):Int :=
 letS (runN (S.Xm a0 a1c0) (.inl ()) 0 a0.length) (fun y4=>Sum.elim (fun _=>-1) (fun y6=>y6) y4)
theorem Uq (a0:List V2) (a1c0:ByteArray) (ha0:LL Wz a0) (ha1c0:a1c0.size≤maxLen):M.Xu a0 a1c0=some (S.Xu a0 a1c0):=by
 have hM:=Zo
 unfold M.Xu S.Xu
 refine Z3 (W9 a0 a1c0 ha0 ha1c0 0) (fun y4 hey4=>?_)
 refine QG (fun _ hl=>?_) (fun y6 hly6=>?_)
 ·rfl
 ·rfl
noncomputable def S.V6 (a0:Zf) (a1:ByteArray):Int :=
 letS (S.Xu a0.XK a1) (fun r1=>r1)
theorem RK (a0:Zf) (a1:ByteArray) (ha0:Zi a0) (ha1:a1.size≤maxLen):M.V6 a0 a1=some (S.V6 a0 a1):=by
 have hM:=Zo
 unfold M.V6 S.V6
 refine Z3 (Uq a0.XK a1 (Zi.XK ha0) ha1) (fun r1 her1=>?_)
 rfl
noncomputable def S.Q2 (a0:Vc):Bool :=
 ((decide (0≤a0.GB))&&(decide (a0.GB≤a0.Ka)))&&(decide (a0.Ka≤65535))
theorem Rj (a0:Vc) :M.Q2 a0=some (S.Q2 a0):=by
 have hM:=Zo
 unfold M.Q2 S.Q2
 rfl
noncomputable def S.JV (a0:Kb):Bool :=
 letS (S.ZV a0.Yg (-1) 255) (fun r1=>bif ((!r1)||((bitD .and .u32 a0.RM.ZA a0.RM.GA) != 0))||((bitD .and .u32 a0.RN.ZA a0.RN.GA) != 0) then false else (letS (S.Q2 a0.VF) (fun r2=>letS (bif (!(!r2)) then S.Q2 a0.VG else default) (fun r3=>bif (!r2)||(!r3) then false else (((a0.Yg==6)||(a0.Yg==17))||(((a0.VF.GB==0)&&((a0.VF.Ka==65535)&&true))&&((a0.VG.GB==0)&&((a0.VG.Ka==65535)&&true))))))))
theorem Zd8 (a0:Kb) :M.JV a0=some (S.JV a0):=by
 have hM:=Zo
 unfold M.JV S.JV
 refine Z3 (X0 a0.Yg (-1) 255) (fun r1 her1=>?_)
 refine Jp (fun hb1=>?_) (fun hb1=>?_)
 ·rfl
 ·refine Z3 (Rj a0.VF) (fun r2 her2=>?_)
  refine Z3 (JA fun hg=>(Rj a0.VG)) (fun r3 her3=>?_)
  refine Jp (fun hb2=>?_) (fun hb2=>?_)
  ·rfl
  ·rfl
noncomputable def S.QI (a0:Zf) (i1:Nat) (i5:Nat):Option (Unit ⊕ Int) :=
 letS (S.JV (((a0.XK.getD i1 default).Xv).getD i5 default)) (fun r7=>bif !r7 then (some (.inr 1)) else none)
theorem Zb2 (a0:Zf) (i1:Nat) (ha0:Zi a0) (hi1:i1 < a0.XK.length) (i0:Nat):loopM (M.QI a0 (i1:Int)) (i0:Int)=some (runN (S.QI a0 i1) (.inl ()) i0 (((a0.XK.getD i1 default).Xv).length - i0)):=by
 have hM:=Zo
 have hni1:a0.XK.length≤maxLen:=(Zi.XK ha0).1
 have hni5:((a0.XK.getD i1 default).Xv).length≤maxLen:=(Wz.Xv (LL.getD (Zi.XK ha0) Wz.dflt i1))
 refine Z6 (n:=((a0.XK.getD i1 default).Xv).length) (fun i5 hi5=>?_) (fun m hm=>?_) i0
 ·unfold M.QI S.QI
  try simp only [Int.toNat_natCast]
  refine X2 (dt (by omega)) ?_
  refine YD (Zw (dt (by omega)) (Zw (dt (by omega)) XP)) ?_
  refine ZU (Zd8 (((a0.XK.getD i1 default).Xv).getD i5 default)) (fun r7 her7=>?_)
  refine XX (fun hb3=>?_) (fun hb3=>?_)
  ·exact XE
  ·exact JZ (by omega)
 ·unfold M.QI
  try simp only [Int.toNat_natCast]
  exact X3 (decide_eq_false (by omega)) rfl
noncomputable def S.Jl (a0:Zf) (i1:Nat):Option (Unit ⊕ Int) :=
 letS (S.V6 a0 ((a0.XK.getD i1 default).ZH)) (fun r3=>letS (S.YV (i1:Int) r3 ((a0.XK.getD i1 default).ZH) (((a0.XK.getD i1 default).Xv).length:Int) 16) (fun r4=>bif r4 != 0 then (some (.inr r4)) else (letS (runN (S.QI a0 i1) (.inl ()) 0 (((a0.XK.getD i1 default).Xv).length)) (fun y8=>Sum.elim (fun _=>none) (fun y10=>some (.inr y10)) y8))))
theorem Zb3 (a0:Zf) (ha0:Zi a0) (i0:Nat):loopM (M.Jl a0) (i0:Int)=some (runN (S.Jl a0) (.inl ()) i0 (a0.XK.length - i0)):=by
 have hM:=Zo
 have hni1:a0.XK.length≤maxLen:=(Zi.XK ha0).1
 refine Z6 (n:=a0.XK.length) (fun i1 hi1=>?_) (fun m hm=>?_) i0
 ·unfold M.Jl S.Jl
  try simp only [Int.toNat_natCast]
  refine X2 (dt (by omega)) ?_
  refine YD (Zw (dt (by omega)) (Zw (dt (by omega)) XP)) ?_
  refine ZU (RK a0 ((a0.XK.getD i1 default).ZH) ha0 (Wz.ZH (LL.getD (Zi.XK ha0) Wz.dflt i1))) (fun r3 her3=>?_)
  refine ZU (Kk (i1:Int) r3 ((a0.XK.getD i1 default).ZH) (((a0.XK.getD i1 default).Xv).length:Int) 16 (Wz.ZH (LL.getD (Zi.XK ha0) Wz.dflt i1))) (fun r4 her4=>?_)
  refine XX (fun hb2=>?_) (fun hb2=>?_)
  ·exact XE
  ·refine ZU (Zb2 a0 i1 ha0 hi1 0) (fun y8 hey8=>?_)
   refine J4 (fun _ hl=>?_) (fun y10 hly10=>?_)
   ·exact JZ (by omega)
   ·exact XE
 ·unfold M.Jl
  try simp only [Int.toNat_natCast]
  exact X3 (decide_eq_false (by omega)) rfl
noncomputable def S.JW (a0:Zf):Int :=
 bif decide ((a0.XK.length:Int) > 8) then 7 else (letS (runN (S.Jl a0) (.inl ()) 0 a0.XK.length) (fun y11=>Sum.elim (fun _=>0) (fun y13=>y13) y11))
theorem Zd9 (a0:Zf) (ha0:Zi a0):M.JW a0=some (S.JW a0):=by
 have hM:=Zo
 unfold M.JW S.JW
 refine Jp (fun hb1=>?_) (fun hb1=>?_)
 ·rfl
 ·refine Z3 (Zb3 a0 ha0 0) (fun y11 hey11=>?_)
  refine QG (fun _ hl=>?_) (fun y13 hly13=>?_)
  ·rfl
  ·rfl
noncomputable def S.YZ (a0:YX):Bool :=
 bif a0.J5==1 then ((((a0.J5==a0.J5)&&((a0.Qm==a0.Qm)&&((a0.YA==a0.YA)&&((a0.Yg==0)&&((a0.QR==0)&&((a0.Qh==0)&&(strEq a0.QX (⟨#[]⟩:ByteArray)&&((a0.GB==0)&&((a0.Ka==0)&&true)))))))))&&(a0.Qm != 0))&&(a0.YA != 0)) else (bif a0.J5==2 then (((((a0.J5==a0.J5)&&((a0.Qm==0)&&((a0.YA==0)&&((a0.Yg==0)&&((a0.QR==0)&&((a0.Qh==0)&&(strEq a0.QX a0.QX&&((a0.GB==a0.GB)&&((a0.Ka==a0.Ka)&&true)))))))))&&(a0.GB != 0))&&(decide (a0.GB≤a0.Ka)))&&(decide ((wr .u32 (a0.Ka - a0.GB)) < 8))) else (bif a0.J5==3 then (letS (bif (((a0.Qm != 0)&&(a0.YA != 0))&&((a0.Yg==6)||(a0.Yg==17))) then S.ZV a0.QR 0 65535 else default) (fun r1=>letS (bif ((((a0.Qm != 0)&&(a0.YA != 0))&&((a0.Yg==6)||(a0.Yg==17)))&&r1) then S.ZV a0.Qh 0 65535 else default) (fun r2=>(((((((a0.Qm != 0)&&(a0.YA != 0))&&((a0.Yg==6)||(a0.Yg==17)))&&r1)&&r2)&&(strEq a0.QX (⟨#[]⟩:ByteArray)))&&(a0.GB==0))&&(a0.Ka==0)))) else false))
theorem RX (a0:YX) (ha0:JD a0):M.YZ a0=some (S.YZ a0):=by
 have hM:=Zo
 unfold M.YZ S.YZ
 refine Jp (fun hb1=>?_) (fun hb1=>?_)
 ·rfl
 ·refine Jp (fun hb2=>?_) (fun hb2=>?_)
  ·rfl
  ·refine Jp (fun hb3=>?_) (fun hb3=>?_)
   ·refine Z3 (JA fun hg=>(X0 a0.QR 0 65535)) (fun r1 her1=>?_)
    refine Z3 (JA fun hg=>(X0 a0.Qh 0 65535)) (fun r2 her2=>?_)
    rfl
   ·rfl
noncomputable def S.JI (a0:Zf) (i1:Nat):Option (Unit ⊕ Int) :=
 letS (S.YZ (a0.Xf.getD i1 default)) (fun r3=>bif !r3 then (some (.inr 1)) else (letS (bif (((a0.Xf.getD i1 default).J5)==2) then S.V6 a0 ((a0.Xf.getD i1 default).QX) else default) (fun r4=>bif (((a0.Xf.getD i1 default).J5)==2)&&(decide (r4 < 0)) then (some (.inr 5)) else none)))
theorem ZcI (a0:Zf) (ha0:Zi a0) (i0:Nat):loopM (M.JI a0) (i0:Int)=some (runN (S.JI a0) (.inl ()) i0 (a0.Xf.length - i0)):=by
 have hM:=Zo
 have hni1:a0.Xf.length≤maxLen:=(Zi.Xf ha0).1
 refine Z6 (n:=a0.Xf.length) (fun i1 hi1=>?_) (fun m hm=>?_) i0
 ·unfold M.JI S.JI
  try simp only [Int.toNat_natCast]
  refine X2 (dt (by omega)) ?_
  refine YD (Zw (dt (by omega)) (Zw (dt (by omega)) XP)) ?_
  refine ZU (RX (a0.Xf.getD i1 default) (LL.getD (Zi.Xf ha0) JD.dflt i1)) (fun r3 her3=>?_)
  refine XX (fun hb2=>?_) (fun hb2=>?_)
  ·exact XE
  ·refine ZU (JA fun hg=>(RK a0 ((a0.Xf.getD i1 default).QX) ha0 (JD.QX (LL.getD (Zi.Xf ha0) JD.dflt i1)))) (fun r4 her4=>?_)
   refine XX (fun hb3=>?_) (fun hb3=>?_)
   ·exact XE
   ·exact JZ (by omega)
 ·unfold M.JI
  try simp only [Int.toNat_natCast]
  exact X3 (decide_eq_false (by omega)) rfl
noncomputable def S.Vf (a0:Zf):Int :=
 bif decide ((a0.Xf.length:Int) > 8) then 7 else (letS (runN (S.JI a0) (.inl ()) 0 a0.Xf.length) (fun y5=>Sum.elim (fun _=>0) (fun y7=>y7) y5))
theorem ZeE (a0:Zf) (ha0:Zi a0):M.Vf a0=some (S.Vf a0):=by
 have hM:=Zo
 unfold M.Vf S.Vf
 refine Jp (fun hb1=>?_) (fun hb1=>?_)
 ·rfl
 ·refine Z3 (ZcI a0 ha0 0) (fun y5 hey5=>?_)
  refine QG (fun _ hl=>?_) (fun y7 hly7=>?_)
  ·rfl
  ·rfl
noncomputable def S.QQ (a0:Zf) (i1:Nat):Option (Unit ⊕ Int) :=
 letS (bif (!strEq ((a0.Zc.getD i1 default).VE) (⟨#[]⟩:ByteArray)) then S.V6 a0 ((a0.Zc.getD i1 default).VE) else default) (fun r3=>letS (bif ((!((!strEq ((a0.Zc.getD i1 default).VE) (⟨#[]⟩:ByteArray))&&(decide (r3 < 0))))&&(!strEq ((a0.Zc.getD i1 default).YH) (⟨#[]⟩:ByteArray))) then S.V6 a0 ((a0.Zc.getD i1 default).YH) else default) (fun r4=>bif ((!strEq ((a0.Zc.getD i1 default).VE) (⟨#[]⟩:ByteArray))&&(decide (r3 < 0)))||((!strEq ((a0.Zc.getD i1 default).YH) (⟨#[]⟩:ByteArray))&&(decide (r4 < 0))) then (some (.inr 5)) else none))
theorem Zal (a0:Zf) (ha0:Zi a0) (i0:Nat):loopM (M.QQ a0) (i0:Int)=some (runN (S.QQ a0) (.inl ()) i0 (a0.Zc.length - i0)):=by
 have hM:=Zo
 have hni1:a0.Zc.length≤maxLen:=(Zi.Zc ha0).1
 refine Z6 (n:=a0.Zc.length) (fun i1 hi1=>?_) (fun m hm=>?_) i0
 ·unfold M.QQ S.QQ
  try simp only [Int.toNat_natCast]
  refine X2 (dt (by omega)) ?_
  refine YD (Zw (dt (by omega)) (Zw (dt (by omega)) XP)) ?_
  refine ZU (JA fun hg=>(RK a0 ((a0.Zc.getD i1 default).VE) ha0 (Xp.VE (LL.getD (Zi.Zc ha0) Xp.dflt i1)))) (fun r3 her3=>?_)
  refine ZU (JA fun hg=>(RK a0 ((a0.Zc.getD i1 default).YH) ha0 (Xp.YH (LL.getD (Zi.Zc ha0) Xp.dflt i1)))) (fun r4 her4=>?_)
  refine XX (fun hb1=>?_) (fun hb1=>?_)
  ·exact XE
  ·exact JZ (by omega)
 ·unfold M.QQ
  try simp only [Int.toNat_natCast]
  exact X3 (decide_eq_false (by omega)) rfl
noncomputable def S.Jm (a0:Zf):Int :=
 letS (runN (S.QQ a0) (.inl ()) 0 a0.Zc.length) (fun y5=>Sum.elim (fun _=>0) (fun y7=>y7) y5)
theorem Zb4 (a0:Zf) (ha0:Zi a0):M.Jm a0=some (S.Jm a0):=by
 have hM:=Zo
 unfold M.Jm S.Jm
 refine Z3 (Zal a0 ha0 0) (fun y5 hey5=>?_)
 refine QG (fun _ hl=>?_) (fun y7 hly7=>?_)
 ·rfl
 ·rfl
noncomputable def S.VU (a0:Zx) (b0:Int):Bool :=
 (a0.ZM != 0)&&(a0.ZA==b0)
theorem Zea (a0:Zx) (b0:Int) (ha0:Xp a0):M.VU a0 b0=some (S.VU a0 b0):=by
 have hM:=Zo
 unfold M.VU S.VU
 rfl
noncomputable def S.ZW (a0:List Zx) (a1c0:Int) (i1:Nat):Option (Unit ⊕ Int) :=
 letS (S.VU (a0.getD i1 default) a1c0) (fun r3=>bif r3 then (some (.inr (i1:Int))) else none)
theorem VY (a0:List Zx) (a1c0:Int) (ha0:LL Xp a0) (i0:Nat):loopM (M.ZW a0 a1c0) (i0:Int)=some (runN (S.ZW a0 a1c0) (.inl ()) i0 (a0.length - i0)):=by
 have hM:=Zo
 have hni1:a0.length≤maxLen:=ha0.1
 refine Z6 (n:=a0.length) (fun i1 hi1=>?_) (fun m hm=>?_) i0
 ·unfold M.ZW S.ZW
  try simp only [Int.toNat_natCast]
  refine X2 (dt (by omega)) ?_
  refine ZU (Zea (a0.getD i1 default) a1c0 (LL.getD ha0 Xp.dflt i1)) (fun r3 her3=>?_)
  refine YD (Zw (dt (by omega)) (Zw (dt (by omega)) XP)) ?_
  refine XX (fun hb1=>?_) (fun hb1=>?_)
  ·exact XE
  ·exact JZ (by omega)
 ·unfold M.ZW
  try simp only [Int.toNat_natCast]
  exact X3 (decide_eq_false (by omega)) rfl
noncomputable def S.Z1 (a0:List Zx) (a1c0:Int):Int :=
 letS (runN (S.ZW a0 a1c0) (.inl ()) 0 a0.length) (fun y4=>Sum.elim (fun _=>-1) (fun y6=>y6) y4)
theorem Wb (a0:List Zx) (a1c0:Int) (ha0:LL Xp a0):M.Z1 a0 a1c0=some (S.Z1 a0 a1c0):=by
 have hM:=Zo
 unfold M.Z1 S.Z1
 refine Z3 (VY a0 a1c0 ha0 0) (fun y4 hey4=>?_)
 refine QG (fun _ hl=>?_) (fun y6 hly6=>?_)
 ·rfl
 ·rfl
noncomputable def S.Vl (a0:Zf) (a1:Int):Int :=
 letS (S.Z1 a0.Zc a1) (fun r1=>r1)
theorem Za4 (a0:Zf) (a1:Int) (ha0:Zi a0):M.Vl a0 a1=some (S.Vl a0 a1):=by
 have hM:=Zo
 unfold M.Vl S.Vl
 refine Z3 (Wb a0.Zc a1 (Zi.Zc ha0)) (fun r1 her1=>?_)
 rfl
noncomputable def S.YI (i1:Nat) (s1:Int) (p3:Int):Int ⊕ Int :=
 .inl (p3)
theorem Kl (i1:Nat) (s1:Int) (p3:Int) (hi1:i1 < 3):M.YI (s1,(i1:Int)) p3=some (rdT (fun (i:Nat) (s1:Int)=>(s1,(i:Int))) (S.YI i1 s1 p3) i1):=by
 have hM:=Zo
 have hni1:3≤maxLen:=(by omega)
 unfold M.YI S.YI
 try simp only [Int.toNat_natCast]
 rw [Zla (by omega)]
 rfl
noncomputable def S.Qa (a1:Yh) (i1:Nat) (s1:Int):Int ⊕ Int :=
 bif ([a1.Vu != 0,!strEq a1.Jj (⟨#[]⟩:ByteArray),a1.VJ]:List Bool).getD i1 default then (S.YI i1 s1 (wr .i64 (s1+1))) else (S.YI i1 s1 s1)
theorem ZaT (a1:Yh) (ha1:Ji a1) (i0:Nat) (s0:Int):loopM (M.Qa a1) ((fun (i:Nat) (s1:Int)=>(s1,(i:Int))) i0 s0)=some (runT (S.Qa a1) (fun s1=>s1) i0 (3 - i0) s0):=by
 have hM:=Zo
 have hni1:3≤maxLen:=(by omega)
 refine Zj2 (n:=3) (mk:=(fun (i:Nat) (s1:Int)=>(s1,(i:Int)))) (fun i1 s1 hi1=>?_) (fun m s1 hm=>?_) i0 s0
 ·unfold M.Qa S.Qa
  try simp only [Int.toNat_natCast]
  refine X2 (dt (by omega)) ?_
  refine YD (Zw (dt (by omega)) (Zw (dt (by simp; omega)) XP)) ?_
  refine Znk (fun hb1=>?_) (fun hb1=>?_)
  ·exact Kl i1 s1 (wr .i64 (s1+1)) hi1
  ·exact Kl i1 s1 s1 hi1
 ·unfold M.Qa
  try simp only [Int.toNat_natCast]
  exact X3 (decide_eq_false (by omega)) rfl
noncomputable def S.QD (a0:Zf) (a1:Yh):Bool :=
 letS (runT (S.Qa a1) (fun s1=>s1) 0 3 (0)) (fun y4=>letS (S.QW a1.Zp) (fun r5=>letS (bif ((r5&&(y4==1)) && !(a1.Vu==0)) then S.Vl a0 a1.Vu else default) (fun r6=>letS (bif ((r5&&(y4==1))&&((a1.Vu==0)||(decide (r6 < 0)))) then S.ZV a1.Xd 1 255 else default) (fun r7=>letS (bif (((r5&&(y4==1))&&((a1.Vu==0)||(decide (r6 < 0))))&&r7) then S.ZV a1.Gd 0 65535 else default) (fun r8=>(((r5&&(y4==1))&&((a1.Vu==0)||(decide (r6 < 0))))&&r7)&&r8)))))
theorem ZcJ (a0:Zf) (a1:Yh) (ha0:Zi a0) (ha1:Ji a1):M.QD a0 a1=some (S.QD a0 a1):=by
 have hM:=Zo
 unfold M.QD S.QD
 refine Z3 (ZaT a1 ha1 0 (0)) (fun y4 hey4=>?_)
 refine Z3 (U0 a1.Zp) (fun r5 her5=>?_)
 refine Z3 (JA fun hg=>(Za4 a0 a1.Vu ha0)) (fun r6 her6=>?_)
 refine Z3 (JA fun hg=>(X0 a1.Xd 1 255)) (fun r7 her7=>?_)
 refine Z3 (JA fun hg=>(X0 a1.Gd 0 65535)) (fun r8 her8=>?_)
 rfl
noncomputable def S.YN (a0:Zf) (i1:Nat) (i5:Nat):Option (Unit ⊕ Int) :=
 bif (((((((a0.Zr.drop 0).take (i1 - 0)).getD i5 default).Zp).ZA)==(((a0.Zr.getD i1 default).Zp).ZA))&&(((((((a0.Zr.drop 0).take (i1 - 0)).getD i5 default).Zp).ZM)==(((a0.Zr.getD i1 default).Zp).ZM))&&true))&&(((((a0.Zr.drop 0).take (i1 - 0)).getD i5 default).Xd)==((a0.Zr.getD i1 default).Xd)) then (some (.inr 6)) else none
theorem Zam (a0:Zf) (i1:Nat) (ha0:Zi a0) (hi1:i1 < a0.Zr.length) (i0:Nat):loopM (M.YN a0 (i1:Int)) (i0:Int)=some (runN (S.YN a0 i1) (.inl ()) i0 (i1 - i0)):=by
 have hM:=Zo
 have hni1:a0.Zr.length≤maxLen:=(Zi.Zr ha0).1
 have hni5:i1≤maxLen:=(by omega)
 refine Z6 (n:=i1) (fun i5 hi5=>?_) (fun m hm=>?_) i0
 ·unfold M.YN S.YN
  try simp only [Int.toNat_natCast]
  refine X2 (dt (by omega)) ?_
  refine YD (Zw (dt (by omega)) (Zw (dt (by simp; omega)) XP)) ?_
  refine XX (fun hb6=>?_) (fun hb6=>?_)
  ·exact XE
  ·exact JZ (by omega)
 ·unfold M.YN
  try simp only [Int.toNat_natCast]
  exact X3 (decide_eq_false (by omega)) rfl
noncomputable def S.Yz (a0:Zf) (i1:Nat) (_p4:Unit):Option (Unit ⊕ Int) :=
 letS (runN (S.YN a0 i1) (.inl ()) 0 i1) (fun y7=>Sum.elim (fun _=>none) (fun y9=>some (.inr y9)) y7)
theorem GZ (a0:Zf) (i1:Nat) (_p4:Unit) (ha0:Zi a0) (hi1:i1 < a0.Zr.length):M.Yz a0 (i1:Int) _p4=some (rdN (S.Yz a0 i1 _p4) i1):=by
 have hM:=Zo
 have hni1:a0.Zr.length≤maxLen:=(Zi.Zr ha0).1
 unfold M.Yz S.Yz
 try simp only [Int.toNat_natCast]
 refine YD (Zw (dt (by omega)) (Zw (dt (by omega)) XP)) ?_
 refine ZU (Zam a0 i1 ha0 hi1 0) (fun y7 hey7=>?_)
 refine J4 (fun _ hl=>?_) (fun y9 hly9=>?_)
 ·exact JZ (by omega)
 ·exact XE
noncomputable def S.Qj (a0:Zf) (i1:Nat):Option (Unit ⊕ Int) :=
 letS (S.QD a0 (a0.Zr.getD i1 default)) (fun r3=>bif !r3 then (some (.inr 1)) else (bif !strEq ((a0.Zr.getD i1 default).Jj) (⟨#[]⟩:ByteArray) then (letS (S.Ql a0 ((a0.Zr.getD i1 default).Jj)) (fun r10=>bif decide (r10 < 0) then (some (.inr 5)) else (bif ((a0.Zc.getD r10.toNat default).ZM)==0 then (some (.inr 1)) else (S.Yz a0 i1 ())))) else (S.Yz a0 i1 ())))
theorem Zan (a0:Zf) (ha0:Zi a0) (i0:Nat):loopM (M.Qj a0) (i0:Int)=some (runN (S.Qj a0) (.inl ()) i0 (a0.Zr.length - i0)):=by
 have hM:=Zo
 have hni1:a0.Zr.length≤maxLen:=(Zi.Zr ha0).1
 refine Z6 (n:=a0.Zr.length) (fun i1 hi1=>?_) (fun m hm=>?_) i0
 ·unfold M.Qj S.Qj
  try simp only [Int.toNat_natCast]
  refine X2 (dt (by omega)) ?_
  refine YD (Zw (dt (by omega)) (Zw (dt (by omega)) XP)) ?_
  refine ZU (ZcJ a0 (a0.Zr.getD i1 default) ha0 (LL.getD (Zi.Zr ha0) Ji.dflt i1)) (fun r3 her3=>?_)
  refine XX (fun hb2=>?_) (fun hb2=>?_)
  ·exact XE
  ·refine XX (fun hb3=>?_) (fun hb3=>?_)
   ·refine ZU (RJ a0 ((a0.Zr.getD i1 default).Jj) ha0 (Ji.Jj (LL.getD (Zi.Zr ha0) Ji.dflt i1))) (fun r10 her10=>?_)
    have hrr10:=KI a0 ((a0.Zr.getD i1 default).Jj)
    refine XX (fun hb4=>?_) (fun hb4=>?_)
    ·exact XE
    ·refine YD (Zw (dt (by first | omega | (simp; omega) | (simp at *; omega))) (Zw (dt (by first | omega | (simp; omega) | (simp at *; omega))) XP)) ?_
     refine XX (fun hb5=>?_) (fun hb5=>?_)
     ·exact XE
     ·exact GZ a0 i1 () ha0 hi1
   ·exact GZ a0 i1 () ha0 hi1
 ·unfold M.Qj
  try simp only [Int.toNat_natCast]
  exact X3 (decide_eq_false (by omega)) rfl
noncomputable def S.QJ (a0:Zf):Int :=
 bif decide ((a0.Zr.length:Int) > 16) then 7 else (letS (runN (S.Qj a0) (.inl ()) 0 a0.Zr.length) (fun y11=>Sum.elim (fun _=>0) (fun y13=>y13) y11))
theorem Zb5 (a0:Zf) (ha0:Zi a0):M.QJ a0=some (S.QJ a0):=by
 have hM:=Zo
 unfold M.QJ S.QJ
 refine Jp (fun hb1=>?_) (fun hb1=>?_)
 ·rfl
 ·refine Z3 (Zan a0 ha0 0) (fun y11 hey11=>?_)
  refine QG (fun _ hl=>?_) (fun y13 hly13=>?_)
  ·rfl
  ·rfl
noncomputable def S.Qb (a1:List YB) (i1:Nat) (i8:Nat):Option (Unit ⊕ Int) :=
 bif ((((a1.drop 0).take (i1 - 0)).getD i8 default).WU)==((a1.getD i1 default).WU) then (some (.inr 4)) else none
theorem ZaU (a1:List YB) (i1:Nat) (ha1:LL J3 a1) (hi1:i1 < a1.length) (i0:Nat):loopM (M.Qb a1 (i1:Int)) (i0:Int)=some (runN (S.Qb a1 i1) (.inl ()) i0 (i1 - i0)):=by
 have hM:=Zo
 have hni1:a1.length≤maxLen:=ha1.1
 have hni8:i1≤maxLen:=(by omega)
 refine Z6 (n:=i1) (fun i8 hi8=>?_) (fun m hm=>?_) i0
 ·unfold M.Qb S.Qb
  try simp only [Int.toNat_natCast]
  refine X2 (dt (by omega)) ?_
  refine YD (Zw (dt (by omega)) (Zw (dt (by simp; omega)) XP)) ?_
  refine XX (fun hb4=>?_) (fun hb4=>?_)
  ·exact XE
  ·exact JZ (by omega)
 ·unfold M.Qb
  try simp only [Int.toNat_natCast]
  exact X3 (decide_eq_false (by omega)) rfl
noncomputable def S.Qx (a0:Zf) (a1:List YB) (a2:Int) (a3:Int) (a4:Int) (a5:Int) (i1:Nat):Option (Unit ⊕ Int) :=
 letS (S.ZV ((a1.getD i1 default).WU) 1 5) (fun r3=>letS (bif (!((!r3)||(((a1.getD i1 default).WU)==a2))) then S.ZV ((a1.getD i1 default).KP) a3 a4 else default) (fun r4=>letS (bif (!(((!r3)||(((a1.getD i1 default).WU)==a2))||(!r4))) then S.ZV ((a1.getD i1 default).Gd) 0 65535 else default) (fun r5=>letS (bif (!((((!r3)||(((a1.getD i1 default).WU)==a2))||(!r4))||(!r5))) then S.ZV ((a1.getD i1 default).Kn) (if a5 < 1 then a5 else 1) a5 else default) (fun r6=>bif ((((!r3)||(((a1.getD i1 default).WU)==a2))||(!r4))||(!r5))||(!r6) then (some (.inr 1)) else (letS (bif (!strEq ((a1.getD i1 default).RO) (⟨#[]⟩:ByteArray)) then S.Y8 a0 ((a1.getD i1 default).RO) else default) (fun r7=>bif (!strEq ((a1.getD i1 default).RO) (⟨#[]⟩:ByteArray))&&(decide (r7 < 0)) then (some (.inr 5)) else (letS (runN (S.Qb a1 i1) (.inl ()) 0 i1) (fun y10=>Sum.elim (fun _=>none) (fun y12=>some (.inr y12)) y10))))))))
theorem ZaV (a0:Zf) (a1:List YB) (a2:Int) (a3:Int) (a4:Int) (a5:Int) (ha0:Zi a0) (ha1:LL J3 a1) (i0:Nat):loopM (M.Qx a0 a1 a2 a3 a4 a5) (i0:Int)=some (runN (S.Qx a0 a1 a2 a3 a4 a5) (.inl ()) i0 (a1.length - i0)):=by
 have hM:=Zo
 have hni1:a1.length≤maxLen:=ha1.1
 refine Z6 (n:=a1.length) (fun i1 hi1=>?_) (fun m hm=>?_) i0
 ·unfold M.Qx S.Qx
  try simp only [Int.toNat_natCast]
  refine X2 (dt (by omega)) ?_
  refine YD (Zw (dt (by omega)) (Zw (dt (by omega)) XP)) ?_
  refine ZU (X0 ((a1.getD i1 default).WU) 1 5) (fun r3 her3=>?_)
  refine ZU (JA fun hg=>(X0 ((a1.getD i1 default).KP) a3 a4)) (fun r4 her4=>?_)
  refine ZU (JA fun hg=>(X0 ((a1.getD i1 default).Gd) 0 65535)) (fun r5 her5=>?_)
  refine ZU (JA fun hg=>(X0 ((a1.getD i1 default).Kn) (if a5 < 1 then a5 else 1) a5)) (fun r6 her6=>?_)
  refine XX (fun hb2=>?_) (fun hb2=>?_)
  ·exact XE
  ·refine ZU (JA fun hg=>(Gz a0 ((a1.getD i1 default).RO) ha0 (J3.RO (LL.getD ha1 J3.dflt i1)))) (fun r7 her7=>?_)
   refine XX (fun hb3=>?_) (fun hb3=>?_)
   ·exact XE
   ·refine YD (Zw (dt (by omega)) (Zw (dt (by omega)) XP)) ?_
    refine ZU (ZaU a1 i1 ha1 hi1 0) (fun y10 hey10=>?_)
    refine J4 (fun _ hl=>?_) (fun y12 hly12=>?_)
    ·exact JZ (by omega)
    ·exact XE
 ·unfold M.Qx
  try simp only [Int.toNat_natCast]
  exact X3 (decide_eq_false (by omega)) rfl
noncomputable def S.YG (a0:Zf) (a1:List YB) (a2:Int) (a3:Int) (a4:Int) (a5:Int):Int :=
 bif decide ((a1.length:Int) > 4) then 7 else (letS (runN (S.Qx a0 a1 a2 a3 a4 a5) (.inl ()) 0 a1.length) (fun y13=>Sum.elim (fun _=>0) (fun y15=>y15) y13))
theorem GI (a0:Zf) (a1:List YB) (a2:Int) (a3:Int) (a4:Int) (a5:Int) (ha0:Zi a0) (ha1:LL J3 a1):M.YG a0 a1 a2 a3 a4 a5=some (S.YG a0 a1 a2 a3 a4 a5):=by
 have hM:=Zo
 unfold M.YG S.YG
 refine Jp (fun hb1=>?_) (fun hb1=>?_)
 ·rfl
 ·refine Z3 (ZaV a0 a1 a2 a3 a4 a5 ha0 ha1 0) (fun y13 hey13=>?_)
  refine QG (fun _ hl=>?_) (fun y15 hly15=>?_)
  ·rfl
  ·rfl
noncomputable def S.Yw (a0:Zf) (i2:Nat) (i6:Nat):Option (Unit ⊕ Int) :=
 letS (bif (((((a0.X5.ZF.drop 0).take (i2 - 0)).getD i6 default).Vb)==((a0.X5.ZF.getD i2 default).Vb)) then S.Vk ((((a0.X5.ZF.drop 0).take (i2 - 0)).getD i6 default).Zp) ((a0.X5.ZF.getD i2 default).Zp) else default) (fun r8=>bif (((((a0.X5.ZF.drop 0).take (i2 - 0)).getD i6 default).Vb)==((a0.X5.ZF.getD i2 default).Vb))&&r8 then (some (.inr 6)) else none)
theorem Rs (a0:Zf) (i2:Nat) (ha0:Zi a0) (hi2:i2 < a0.X5.ZF.length) (i0:Nat):loopM (M.Yw a0 (i2:Int)) (i0:Int)=some (runN (S.Yw a0 i2) (.inl ()) i0 (i2 - i0)):=by
 have hM:=Zo
 have hni2:a0.X5.ZF.length≤maxLen:=(Jr.ZF (Zi.X5 ha0))
 have hni6:i2≤maxLen:=(by omega)
 refine Z6 (n:=i2) (fun i6 hi6=>?_) (fun m hm=>?_) i0
 ·unfold M.Yw S.Yw
  try simp only [Int.toNat_natCast]
  refine X2 (dt (by omega)) ?_
  refine YD (Zw (dt (by omega)) (Zw (dt (by simp; omega)) XP)) ?_
  refine ZU (JA fun hg=>(Za3 ((((a0.X5.ZF.drop 0).take (i2 - 0)).getD i6 default).Zp) ((a0.X5.ZF.getD i2 default).Zp))) (fun r8 her8=>?_)
  refine XX (fun hb6=>?_) (fun hb6=>?_)
  ·exact XE
  ·exact JZ (by omega)
 ·unfold M.Yw
  try simp only [Int.toNat_natCast]
  exact X3 (decide_eq_false (by omega)) rfl
noncomputable def S.YK (a0:Zf) (i2:Nat):Option (Unit ⊕ Int) :=
 letS (S.ZV ((a0.X5.ZF.getD i2 default).Vb) 0 255) (fun r4=>letS (bif (!(!r4)) then S.QW ((a0.X5.ZF.getD i2 default).Zp) else default) (fun r5=>bif (!r4)||(!r5) then (some (.inr 1)) else (letS (runN (S.Yw a0 i2) (.inl ()) 0 i2) (fun y9=>Sum.elim (fun _=>none) (fun y11=>some (.inr y11)) y9))))
theorem Rt (a0:Zf) (ha0:Zi a0) (i0:Nat):loopM (M.YK a0) (i0:Int)=some (runN (S.YK a0) (.inl ()) i0 (a0.X5.ZF.length - i0)):=by
 have hM:=Zo
 have hni2:a0.X5.ZF.length≤maxLen:=(Jr.ZF (Zi.X5 ha0))
 refine Z6 (n:=a0.X5.ZF.length) (fun i2 hi2=>?_) (fun m hm=>?_) i0
 ·unfold M.YK S.YK
  try simp only [Int.toNat_natCast]
  refine X2 (dt (by omega)) ?_
  refine YD (Zw (dt (by omega)) (Zw (dt (by omega)) XP)) ?_
  refine ZU (X0 ((a0.X5.ZF.getD i2 default).Vb) 0 255) (fun r4 her4=>?_)
  refine ZU (JA fun hg=>(U0 ((a0.X5.ZF.getD i2 default).Zp))) (fun r5 her5=>?_)
  refine XX (fun hb5=>?_) (fun hb5=>?_)
  ·exact XE
  ·refine YD (Zw (dt (by omega)) (Zw (dt (by omega)) XP)) ?_
   refine ZU (Rs a0 i2 ha0 hi2 0) (fun y9 hey9=>?_)
   refine J4 (fun _ hl=>?_) (fun y11 hly11=>?_)
   ·exact JZ (by omega)
   ·exact XE
 ·unfold M.YK
  try simp only [Int.toNat_natCast]
  exact X3 (decide_eq_false (by omega)) rfl
noncomputable def S.Qc (a0:Zf):Int :=
 bif !a0.X5.Vz then (bif ((a0.X5.Xd != 0)||(decide ((a0.X5.ZF.length:Int) > 0)))||(decide ((a0.X5.Zs.length:Int) > 0)) then 1 else 0) else (letS (S.ZV a0.X5.Xd 1 255) (fun r1=>bif !r1 then 1 else (bif decide ((a0.X5.ZF.length:Int) > 4) then 7 else (letS (runN (S.YK a0) (.inl ()) 0 a0.X5.ZF.length) (fun y12=>Sum.elim (fun _=>letS (S.YG a0 a0.X5.Zs 3 0 16777215 2) (fun r15=>r15)) (fun y14=>y14) y12)))))
theorem ZaW (a0:Zf) (ha0:Zi a0):M.Qc a0=some (S.Qc a0):=by
 have hM:=Zo
 unfold M.Qc S.Qc
 refine Jp (fun hb1=>?_) (fun hb1=>?_)
 ·refine Jp (fun hb2=>?_) (fun hb2=>?_)
  ·rfl
  ·rfl
 ·refine Z3 (X0 a0.X5.Xd 1 255) (fun r1 her1=>?_)
  refine Jp (fun hb3=>?_) (fun hb3=>?_)
  ·rfl
  ·refine Jp (fun hb4=>?_) (fun hb4=>?_)
   ·rfl
   ·refine Z3 (Rt a0 ha0 0) (fun y12 hey12=>?_)
    refine QG (fun _ hl=>?_) (fun y14 hly14=>?_)
    ·refine Z3 (GI a0 a0.X5.Zs 3 0 16777215 2 ha0 (Jr.Zs (Zi.X5 ha0))) (fun r15 her15=>?_)
     rfl
    ·rfl
noncomputable def S.Yj (a0:Zf):Int :=
 bif !a0.Ye.Vz then (bif (((a0.Ye.Xd != 0)||(!strEq a0.Ye.VE (⟨#[]⟩:ByteArray)))||(!strEq a0.Ye.YH (⟨#[]⟩:ByteArray)))||(decide ((a0.Ye.Zs.length:Int) > 0)) then 1 else 0) else (letS (S.ZV a0.Ye.Xd 1 255) (fun r1=>bif !r1 then 1 else (letS (bif (!strEq a0.Ye.VE (⟨#[]⟩:ByteArray)) then S.Yu a0 a0.Ye.VE else default) (fun r2=>letS (bif ((!((!strEq a0.Ye.VE (⟨#[]⟩:ByteArray))&&(decide (r2 < 0))))&&(!strEq a0.Ye.YH (⟨#[]⟩:ByteArray))) then S.Yu a0 a0.Ye.YH else default) (fun r3=>bif ((!strEq a0.Ye.VE (⟨#[]⟩:ByteArray))&&(decide (r2 < 0)))||((!strEq a0.Ye.YH (⟨#[]⟩:ByteArray))&&(decide (r3 < 0))) then 5 else (letS (S.YG a0 a0.Ye.Zs 4 1 15 0) (fun r4=>r4)))))))
theorem KU (a0:Zf) (ha0:Zi a0):M.Yj a0=some (S.Yj a0):=by
 have hM:=Zo
 unfold M.Yj S.Yj
 refine Jp (fun hb1=>?_) (fun hb1=>?_)
 ·refine Jp (fun hb2=>?_) (fun hb2=>?_)
  ·rfl
  ·rfl
 ·refine Z3 (X0 a0.Ye.Xd 1 255) (fun r1 her1=>?_)
  refine Jp (fun hb3=>?_) (fun hb3=>?_)
  ·rfl
  ·refine Z3 (JA fun hg=>(UZ a0 a0.Ye.VE ha0 (Yf.VE (Zi.Ye ha0)))) (fun r2 her2=>?_)
   refine Z3 (JA fun hg=>(UZ a0 a0.Ye.YH ha0 (Yf.YH (Zi.Ye ha0)))) (fun r3 her3=>?_)
   refine Jp (fun hb4=>?_) (fun hb4=>?_)
   ·rfl
   ·refine Z3 (GI a0 a0.Ye.Zs 4 1 15 0 ha0 (Yf.Zs (Zi.Ye ha0))) (fun r4 her4=>?_)
    rfl
noncomputable def S.Yx (a0:Zf) (i1:Nat) (i6:Nat):Option (Unit ⊕ Int) :=
 bif ((((a0.Z8.Zl.drop 0).take (i1 - 0)).getD i6 default).ZA)==((a0.Z8.Zl.getD i1 default).ZA) then (some (.inr 4)) else none
theorem Ru (a0:Zf) (i1:Nat) (ha0:Zi a0) (hi1:i1 < a0.Z8.Zl.length) (i0:Nat):loopM (M.Yx a0 (i1:Int)) (i0:Int)=some (runN (S.Yx a0 i1) (.inl ()) i0 (i1 - i0)):=by
 have hM:=Zo
 have hni1:a0.Z8.Zl.length≤maxLen:=(Z5.Zl (Zi.Z8 ha0)).1
 have hni6:i1≤maxLen:=(by omega)
 refine Z6 (n:=i1) (fun i6 hi6=>?_) (fun m hm=>?_) i0
 ·unfold M.Yx S.Yx
  try simp only [Int.toNat_natCast]
  refine X2 (dt (by omega)) ?_
  refine YD (Zw (dt (by omega)) (Zw (dt (by simp; omega)) XP)) ?_
  refine XX (fun hb4=>?_) (fun hb4=>?_)
  ·exact XE
  ·exact JZ (by omega)
 ·unfold M.Yx
  try simp only [Int.toNat_natCast]
  exact X3 (decide_eq_false (by omega)) rfl
noncomputable def S.YL (a0:Zf) (i1:Nat):Option (Unit ⊕ Int) :=
 letS (bif (!(((a0.Z8.Zl.getD i1 default).ZA)==0)) then S.ZV ((a0.Z8.Zl.getD i1 default).GC) 1 65535 else default) (fun r3=>bif (((a0.Z8.Zl.getD i1 default).ZA)==0)||(!r3) then (some (.inr 1)) else (letS (bif (!strEq ((a0.Z8.Zl.getD i1 default).VE) (⟨#[]⟩:ByteArray)) then S.Y8 a0 ((a0.Z8.Zl.getD i1 default).VE) else default) (fun r4=>letS (bif ((!((!strEq ((a0.Z8.Zl.getD i1 default).VE) (⟨#[]⟩:ByteArray))&&(decide (r4 < 0))))&&(!strEq ((a0.Z8.Zl.getD i1 default).YH) (⟨#[]⟩:ByteArray))) then S.Y8 a0 ((a0.Z8.Zl.getD i1 default).YH) else default) (fun r5=>bif ((!strEq ((a0.Z8.Zl.getD i1 default).VE) (⟨#[]⟩:ByteArray))&&(decide (r4 < 0)))||((!strEq ((a0.Z8.Zl.getD i1 default).YH) (⟨#[]⟩:ByteArray))&&(decide (r5 < 0))) then (some (.inr 5)) else (letS (runN (S.Yx a0 i1) (.inl ()) 0 i1) (fun y8=>Sum.elim (fun _=>none) (fun y10=>some (.inr y10)) y8))))))
theorem Rv (a0:Zf) (ha0:Zi a0) (i0:Nat):loopM (M.YL a0) (i0:Int)=some (runN (S.YL a0) (.inl ()) i0 (a0.Z8.Zl.length - i0)):=by
 have hM:=Zo
 have hni1:a0.Z8.Zl.length≤maxLen:=(Z5.Zl (Zi.Z8 ha0)).1
 refine Z6 (n:=a0.Z8.Zl.length) (fun i1 hi1=>?_) (fun m hm=>?_) i0
 ·unfold M.YL S.YL
  try simp only [Int.toNat_natCast]
  refine X2 (dt (by omega)) ?_
  refine YD (Zw (dt (by omega)) (Zw (dt (by omega)) XP)) ?_
  refine ZU (JA fun hg=>(X0 ((a0.Z8.Zl.getD i1 default).GC) 1 65535)) (fun r3 her3=>?_)
  refine XX (fun hb2=>?_) (fun hb2=>?_)
  ·exact XE
  ·refine ZU (JA fun hg=>(Gz a0 ((a0.Z8.Zl.getD i1 default).VE) ha0 (JL.VE (LL.getD (Z5.Zl (Zi.Z8 ha0)) JL.dflt i1)))) (fun r4 her4=>?_)
   refine ZU (JA fun hg=>(Gz a0 ((a0.Z8.Zl.getD i1 default).YH) ha0 (JL.YH (LL.getD (Z5.Zl (Zi.Z8 ha0)) JL.dflt i1)))) (fun r5 her5=>?_)
   refine XX (fun hb3=>?_) (fun hb3=>?_)
   ·exact XE
   ·refine YD (Zw (dt (by omega)) (Zw (dt (by omega)) XP)) ?_
    refine ZU (Ru a0 i1 ha0 hi1 0) (fun y8 hey8=>?_)
    refine J4 (fun _ hl=>?_) (fun y10 hly10=>?_)
    ·exact JZ (by omega)
    ·exact XE
 ·unfold M.YL
  try simp only [Int.toNat_natCast]
  exact X3 (decide_eq_false (by omega)) rfl
noncomputable def S.Qd (a0:Zf):Int :=
 bif decide ((a0.Z8.Zl.length:Int) > 8) then 7 else (letS (runN (S.YL a0) (.inl ()) 0 a0.Z8.Zl.length) (fun y11=>Sum.elim (fun _=>0) (fun y13=>y13) y11))
theorem ZaX (a0:Zf) (ha0:Zi a0):M.Qd a0=some (S.Qd a0):=by
 have hM:=Zo
 unfold M.Qd S.Qd
 refine Jp (fun hb1=>?_) (fun hb1=>?_)
 ·rfl
 ·refine Z3 (Rv a0 ha0 0) (fun y11 hey11=>?_)
  refine QG (fun _ hl=>?_) (fun y13 hly13=>?_)
  ·rfl
  ·rfl
noncomputable def S.XV (a0:List ZO) (a1:ZO) (i1:Nat):Option (Unit ⊕ Int) :=
 bif ((a1.ZA==((a0.getD i1 default).ZA))&&((a1.ZM==((a0.getD i1 default).ZM))&&true)) then (some (.inr (i1:Int))) else none
theorem Ge (a0:List ZO) (a1:ZO) (ha0:a0.length≤maxLen) (i0:Nat):loopM (M.XV a0 a1) (i0:Int)=some (runN (S.XV a0 a1) (.inl ()) i0 (a0.length - i0)):=by
 have hM:=Zo
 have hni1:a0.length≤maxLen:=ha0
 refine Z6 (n:=a0.length) (fun i1 hi1=>?_) (fun m hm=>?_) i0
 ·unfold M.XV S.XV
  try simp only [Int.toNat_natCast]
  refine X2 (dt (by omega)) ?_
  refine YD (Zw (dt (by omega)) (Zw (dt (by omega)) XP)) ?_
  refine XX (fun hb1=>?_) (fun hb1=>?_)
  ·exact XE
  ·exact JZ (by omega)
 ·unfold M.XV
  try simp only [Int.toNat_natCast]
  exact X3 (decide_eq_false (by omega)) rfl
noncomputable def S.XQ (a0:List ZO) (a1:ZO):Int :=
 letS (runN (S.XV a0 a1) (.inl ()) 0 a0.length) (fun y3=>Sum.elim (fun _=>-1) (fun y5=>y5) y3)
theorem GJ (a0:List ZO) (a1:ZO) (ha0:a0.length≤maxLen):M.XQ a0 a1=some (S.XQ a0 a1):=by
 have hM:=Zo
 unfold M.XQ S.XQ
 refine Z3 (Ge a0 a1 ha0 0) (fun y3 hey3=>?_)
 refine QG (fun _ hl=>?_) (fun y5 hly5=>?_)
 ·rfl
 ·rfl
noncomputable def S.Xx (a0:List ZO) (a1:ZO):Bool :=
 letS (S.XQ a0 a1) (fun r1=>decide (r1 ≥ 0))
theorem Gf (a0:List ZO) (a1:ZO) (ha0:a0.length≤maxLen):M.Xx a0 a1=some (S.Xx a0 a1):=by
 have hM:=Zo
 unfold M.Xx S.Xx
 refine Z3 (GJ a0 a1 ha0) (fun r1 her1=>?_)
 rfl
noncomputable def S.YO (a0:Xb) (i1:Nat):Option (Unit ⊕ Int) :=
 letS (S.QW (a0.Zt.getD i1 default)) (fun r3=>bif !r3 then (some (.inr 1)) else (letS (S.Xx ((a0.Zt.drop 0).take (i1 - 0)) (a0.Zt.getD i1 default)) (fun r4=>bif r4 then (some (.inr 4)) else none)))
theorem Zao (a0:Xb) (ha0:Z5 a0) (i0:Nat):loopM (M.YO a0) (i0:Int)=some (runN (S.YO a0) (.inl ()) i0 (a0.Zt.length - i0)):=by
 have hM:=Zo
 have hni1:a0.Zt.length≤maxLen:=(Z5.Zt ha0)
 refine Z6 (n:=a0.Zt.length) (fun i1 hi1=>?_) (fun m hm=>?_) i0
 ·unfold M.YO S.YO
  try simp only [Int.toNat_natCast]
  refine X2 (dt (by omega)) ?_
  refine YD (Zw (dt (by omega)) (Zw (dt (by omega)) XP)) ?_
  refine ZU (U0 (a0.Zt.getD i1 default)) (fun r3 her3=>?_)
  refine XX (fun hb2=>?_) (fun hb2=>?_)
  ·exact XE
  ·refine ZU (Gf ((a0.Zt.drop 0).take (i1 - 0)) (a0.Zt.getD i1 default) (Zlb (Zlc (Z5.Zt ha0)))) (fun r4 her4=>?_)
   refine YD (Zw (dt (by omega)) (Zw (dt (by omega)) XP)) ?_
   refine XX (fun hb3=>?_) (fun hb3=>?_)
   ·exact XE
   ·exact JZ (by omega)
 ·unfold M.YO
  try simp only [Int.toNat_natCast]
  exact X3 (decide_eq_false (by omega)) rfl
noncomputable def S.YP (a0:Xb) (i8:Nat) (i11:Nat):Option (Unit ⊕ Int) :=
 bif (((((((a0.Zq.drop 0).take (i8 - 0)).getD i11 default).Zp).ZA)==(((a0.Zq.getD i8 default).Zp).ZA))&&(((((((a0.Zq.drop 0).take (i8 - 0)).getD i11 default).Zp).ZM)==(((a0.Zq.getD i8 default).Zp).ZM))&&true)) then (some (.inr 4)) else none
theorem Zap (a0:Xb) (i8:Nat) (ha0:Z5 a0) (hi8:i8 < a0.Zq.length) (i0:Nat):loopM (M.YP a0 (i8:Int)) (i0:Int)=some (runN (S.YP a0 i8) (.inl ()) i0 (i8 - i0)):=by
 have hM:=Zo
 have hni8:a0.Zq.length≤maxLen:=(Z5.Zq ha0)
 have hni11:i8≤maxLen:=(by omega)
 refine Z6 (n:=i8) (fun i11 hi11=>?_) (fun m hm=>?_) i0
 ·unfold M.YP S.YP
  try simp only [Int.toNat_natCast]
  refine X2 (dt (by omega)) ?_
  refine YD (Zw (dt (by omega)) (Zw (dt (by simp; omega)) XP)) ?_
  refine XX (fun hb6=>?_) (fun hb6=>?_)
  ·exact XE
  ·exact JZ (by omega)
 ·unfold M.YP
  try simp only [Int.toNat_natCast]
  exact X3 (decide_eq_false (by omega)) rfl
noncomputable def S.YQ (a0:Xb) (i8:Nat):Option (Unit ⊕ Int) :=
 letS (S.QW ((a0.Zq.getD i8 default).Zp)) (fun r10=>bif !r10 then (some (.inr 1)) else (letS (runN (S.YP a0 i8) (.inl ()) 0 i8) (fun y13=>Sum.elim (fun _=>none) (fun y15=>some (.inr y15)) y13)))
theorem Zaq (a0:Xb) (ha0:Z5 a0) (i0:Nat):loopM (M.YQ a0) (i0:Int)=some (runN (S.YQ a0) (.inl ()) i0 (a0.Zq.length - i0)):=by
 have hM:=Zo
 have hni8:a0.Zq.length≤maxLen:=(Z5.Zq ha0)
 refine Z6 (n:=a0.Zq.length) (fun i8 hi8=>?_) (fun m hm=>?_) i0
 ·unfold M.YQ S.YQ
  try simp only [Int.toNat_natCast]
  refine X2 (dt (by omega)) ?_
  refine YD (Zw (dt (by omega)) (Zw (dt (by omega)) XP)) ?_
  refine ZU (U0 ((a0.Zq.getD i8 default).Zp)) (fun r10 her10=>?_)
  refine XX (fun hb5=>?_) (fun hb5=>?_)
  ·exact XE
  ·refine YD (Zw (dt (by omega)) (Zw (dt (by omega)) XP)) ?_
   refine ZU (Zap a0 i8 ha0 hi8 0) (fun y13 hey13=>?_)
   refine J4 (fun _ hl=>?_) (fun y15 hly15=>?_)
   ·exact JZ (by omega)
   ·exact XE
 ·unfold M.YQ
  try simp only [Int.toNat_natCast]
  exact X3 (decide_eq_false (by omega)) rfl
noncomputable def S.YR (a0:Xb) (i19:Nat) (i23:Nat):Option (Unit ⊕ Int) :=
 bif (((((((a0.Zn.drop 0).take (i19 - 0)).getD i23 default).Zp).ZA)==(((a0.Zn.getD i19 default).Zp).ZA))&&(((((((a0.Zn.drop 0).take (i19 - 0)).getD i23 default).Zp).ZM)==(((a0.Zn.getD i19 default).Zp).ZM))&&true)) then (some (.inr 4)) else none
theorem Zar (a0:Xb) (i19:Nat) (ha0:Z5 a0) (hi19:i19 < a0.Zn.length) (i0:Nat):loopM (M.YR a0 (i19:Int)) (i0:Int)=some (runN (S.YR a0 i19) (.inl ()) i0 (i19 - i0)):=by
 have hM:=Zo
 have hni19:a0.Zn.length≤maxLen:=(Z5.Zn ha0)
 have hni23:i19≤maxLen:=(by omega)
 refine Z6 (n:=i19) (fun i23 hi23=>?_) (fun m hm=>?_) i0
 ·unfold M.YR S.YR
  try simp only [Int.toNat_natCast]
  refine X2 (dt (by omega)) ?_
  refine YD (Zw (dt (by omega)) (Zw (dt (by simp; omega)) XP)) ?_
  refine XX (fun hb10=>?_) (fun hb10=>?_)
  ·exact XE
  ·exact JZ (by omega)
 ·unfold M.YR
  try simp only [Int.toNat_natCast]
  exact X3 (decide_eq_false (by omega)) rfl
noncomputable def S.YS (a0:Xb) (i19:Nat):Option (Unit ⊕ Int) :=
 letS (S.QW ((a0.Zn.getD i19 default).Zp)) (fun r21=>letS (bif (!(!r21)) then S.QW ((a0.Zn.getD i19 default).fIf) else default) (fun r22=>bif (!r21)||(!r22) then (some (.inr 1)) else (bif (((((a0.Zn.getD i19 default).Zp).ZA)==(((a0.Zn.getD i19 default).fIf).ZA))&&(((((a0.Zn.getD i19 default).Zp).ZM)==(((a0.Zn.getD i19 default).fIf).ZM))&&true)) then (some (.inr 6)) else (letS (runN (S.YR a0 i19) (.inl ()) 0 i19) (fun y25=>Sum.elim (fun _=>none) (fun y27=>some (.inr y27)) y25)))))
theorem Zas (a0:Xb) (ha0:Z5 a0) (i0:Nat):loopM (M.YS a0) (i0:Int)=some (runN (S.YS a0) (.inl ()) i0 (a0.Zn.length - i0)):=by
 have hM:=Zo
 have hni19:a0.Zn.length≤maxLen:=(Z5.Zn ha0)
 refine Z6 (n:=a0.Zn.length) (fun i19 hi19=>?_) (fun m hm=>?_) i0
 ·unfold M.YS S.YS
  try simp only [Int.toNat_natCast]
  refine X2 (dt (by omega)) ?_
  refine YD (Zw (dt (by omega)) (Zw (dt (by omega)) XP)) ?_
  refine ZU (U0 ((a0.Zn.getD i19 default).Zp)) (fun r21 her21=>?_)
  refine ZU (JA fun hg=>(U0 ((a0.Zn.getD i19 default).fIf))) (fun r22 her22=>?_)
  refine XX (fun hb8=>?_) (fun hb8=>?_)
  ·exact XE
  ·refine XX (fun hb9=>?_) (fun hb9=>?_)
   ·exact XE
   ·refine YD (Zw (dt (by omega)) (Zw (dt (by omega)) XP)) ?_
    refine ZU (Zar a0 i19 ha0 hi19 0) (fun y25 hey25=>?_)
    refine J4 (fun _ hl=>?_) (fun y27 hly27=>?_)
    ·exact JZ (by omega)
    ·exact XE
 ·unfold M.YS
  try simp only [Int.toNat_natCast]
  exact X3 (decide_eq_false (by omega)) rfl
noncomputable def S.QL (a0:Xb):Int :=
 bif decide ((a0.Zt.length:Int) > 8) then 7 else (letS (runN (S.YO a0) (.inl ()) 0 a0.Zt.length) (fun y5=>Sum.elim (fun _=>bif decide ((a0.Zq.length:Int) > 8) then 7 else (letS (runN (S.YQ a0) (.inl ()) 0 a0.Zq.length) (fun y16=>Sum.elim (fun _=>bif decide ((a0.Zn.length:Int) > 8) then 7 else (letS (runN (S.YS a0) (.inl ()) 0 a0.Zn.length) (fun y28=>Sum.elim (fun _=>0) (fun y30=>y30) y28))) (fun y18=>y18) y16))) (fun y7=>y7) y5))
theorem Zb6 (a0:Xb) (ha0:Z5 a0):M.QL a0=some (S.QL a0):=by
 have hM:=Zo
 unfold M.QL S.QL
 refine Jp (fun hb1=>?_) (fun hb1=>?_)
 ·rfl
 ·refine Z3 (Zao a0 ha0 0) (fun y5 hey5=>?_)
  refine QG (fun _ hl=>?_) (fun y7 hly7=>?_)
  ·refine Jp (fun hb4=>?_) (fun hb4=>?_)
   ·rfl
   ·refine Z3 (Zaq a0 ha0 0) (fun y16 hey16=>?_)
    refine QG (fun _ hl=>?_) (fun y18 hly18=>?_)
    ·refine Jp (fun hb7=>?_) (fun hb7=>?_)
     ·rfl
     ·refine Z3 (Zas a0 ha0 0) (fun y28 hey28=>?_)
      refine QG (fun _ hl=>?_) (fun y30 hly30=>?_)
      ·rfl
      ·rfl
    ·rfl
  ·rfl
noncomputable def S.YT (a0:Zf):Int :=
 bif !a0.Z8.Vz then (bif ((((((a0.Z8.XM != 0)||(a0.Z8.XN != 0))||(decide ((a0.Z8.Zl.length:Int) > 0)))||(decide ((a0.Z8.Zt.length:Int) > 0)))||(decide ((a0.Z8.Zq.length:Int) > 0)))||(decide ((a0.Z8.Zn.length:Int) > 0)))||(decide ((a0.Z8.Zs.length:Int) > 0)) then 1 else 0) else (letS (bif (!(a0.GC==0)) then S.ZV a0.Z8.XM 1 255 else default) (fun r1=>letS (bif (!((a0.GC==0)||(!r1))) then S.ZV a0.Z8.XN 1 255 else default) (fun r2=>bif ((a0.GC==0)||(!r1))||(!r2) then 1 else (letS (S.Qd a0) (fun r3=>bif r3 != 0 then r3 else (letS (S.QL a0.Z8) (fun r4=>bif r4 != 0 then r4 else (letS (S.YG a0 a0.Z8.Zs 5 0 16777215 0) (fun r5=>r5)))))))))
theorem Zat (a0:Zf) (ha0:Zi a0):M.YT a0=some (S.YT a0):=by
 have hM:=Zo
 unfold M.YT S.YT
 refine Jp (fun hb1=>?_) (fun hb1=>?_)
 ·refine Jp (fun hb2=>?_) (fun hb2=>?_)
  ·rfl
  ·rfl
 ·refine Z3 (JA fun hg=>(X0 a0.Z8.XM 1 255)) (fun r1 her1=>?_)
  refine Z3 (JA fun hg=>(X0 a0.Z8.XN 1 255)) (fun r2 her2=>?_)
  refine Jp (fun hb3=>?_) (fun hb3=>?_)
  ·rfl
  ·refine Z3 (ZaX a0 ha0) (fun r3 her3=>?_)
   refine Jp (fun hb4=>?_) (fun hb4=>?_)
   ·rfl
   ·refine Z3 (Zb6 a0.Z8 (Zi.Z8 ha0)) (fun r4 her4=>?_)
    refine Jp (fun hb5=>?_) (fun hb5=>?_)
    ·rfl
    ·refine Z3 (GI a0 a0.Z8.Zs 5 0 16777215 0 ha0 (Z5.Zs (Zi.Z8 ha0))) (fun r5 her5=>?_)
     rfl
noncomputable def S.Jg (a0:Zf):Int :=
 letS (S.Ww a0.ZH) (fun r1=>bif !r1 then 3 else (letS (S.ZV a0.GC 0 65535) (fun r2=>bif !r2 then 1 else (letS (S.YM a0) (fun r3=>bif r3 != 0 then r3 else (letS (S.YF a0) (fun r4=>bif r4 != 0 then r4 else (letS (S.Y9 a0) (fun r5=>bif r5 != 0 then r5 else (letS (S.JW a0) (fun r6=>bif r6 != 0 then r6 else (letS (S.Vf a0) (fun r7=>bif r7 != 0 then r7 else (letS (S.Jm a0) (fun r8=>bif r8 != 0 then r8 else (letS (S.QJ a0) (fun r9=>bif r9 != 0 then r9 else (letS (S.Qc a0) (fun r10=>bif r10 != 0 then r10 else (letS (S.Yj a0) (fun r11=>bif r11 != 0 then r11 else (letS (S.YT a0) (fun r12=>bif r12 != 0 then r12 else 0)))))))))))))))))))))))
theorem ZcK (a0:Zf) (ha0:Zi a0):M.Jg a0=some (S.Jg a0):=by
 have hM:=Zo
 unfold M.Jg S.Jg
 refine Z3 (Zb0 a0.ZH (Zi.ZH ha0)) (fun r1 her1=>?_)
 refine Jp (fun hb1=>?_) (fun hb1=>?_)
 ·rfl
 ·refine Z3 (X0 a0.GC 0 65535) (fun r2 her2=>?_)
  refine Jp (fun hb2=>?_) (fun hb2=>?_)
  ·rfl
  ·refine YD (Zw (dt (by first | omega | (simp; omega) | (simp at *; omega))) (Zw (dt (by first | omega | (simp; omega) | (simp at *; omega))) XP)) ?_
   refine Z3 (Zak a0 ha0) (fun r3 her3=>?_)
   refine Jp (fun hb3=>?_) (fun hb3=>?_)
   ·rfl
   ·refine YD (Zw (dt (by first | omega | (simp; omega) | (simp at *; omega))) (Zw (dt (by first | omega | (simp; omega) | (simp at *; omega))) XP)) ?_
    refine Z3 (RW a0 ha0) (fun r4 her4=>?_)
    refine Jp (fun hb4=>?_) (fun hb4=>?_)
    ·rfl
    ·refine YD (Zw (dt (by first | omega | (simp; omega) | (simp at *; omega))) (Zw (dt (by first | omega | (simp; omega) | (simp at *; omega))) XP)) ?_
     refine Z3 (ZaS a0 ha0) (fun r5 her5=>?_)
     refine Jp (fun hb5=>?_) (fun hb5=>?_)
     ·rfl
     ·refine YD (Zw (dt (by first | omega | (simp; omega) | (simp at *; omega))) (Zw (dt (by first | omega | (simp; omega) | (simp at *; omega))) XP)) ?_
      refine Z3 (Zd9 a0 ha0) (fun r6 her6=>?_)
      refine Jp (fun hb6=>?_) (fun hb6=>?_)
      ·rfl
      ·refine YD (Zw (dt (by first | omega | (simp; omega) | (simp at *; omega))) (Zw (dt (by first | omega | (simp; omega) | (simp at *; omega))) XP)) ?_
       refine Z3 (ZeE a0 ha0) (fun r7 her7=>?_)
       refine Jp (fun hb7=>?_) (fun hb7=>?_)
       ·rfl
       ·refine YD (Zw (dt (by first | omega | (simp; omega) | (simp at *; omega))) (Zw (dt (by first | omega | (simp; omega) | (simp at *; omega))) XP)) ?_
        refine Z3 (Zb4 a0 ha0) (fun r8 her8=>?_)
        refine Jp (fun hb8=>?_) (fun hb8=>?_)
        ·rfl
        ·refine YD (Zw (dt (by first | omega | (simp; omega) | (simp at *; omega))) (Zw (dt (by first | omega | (simp; omega) | (simp at *; omega))) XP)) ?_
         refine Z3 (Zb5 a0 ha0) (fun r9 her9=>?_)
         refine Jp (fun hb9=>?_) (fun hb9=>?_)
         ·rfl
         ·refine YD (Zw (dt (by first | omega | (simp; omega) | (simp at *; omega))) (Zw (dt (by first | omega | (simp; omega) | (simp at *; omega))) XP)) ?_
          refine Z3 (ZaW a0 ha0) (fun r10 her10=>?_)
          refine Jp (fun hb10=>?_) (fun hb10=>?_)
          ·rfl
          ·refine YD (Zw (dt (by first | omega | (simp; omega) | (simp at *; omega))) (Zw (dt (by first | omega | (simp; omega) | (simp at *; omega))) XP)) ?_
           refine Z3 (KU a0 ha0) (fun r11 her11=>?_)
           refine Jp (fun hb11=>?_) (fun hb11=>?_)
           ·rfl
           ·refine YD (Zw (dt (by first | omega | (simp; omega) | (simp at *; omega))) (Zw (dt (by first | omega | (simp; omega) | (simp at *; omega))) XP)) ?_
            refine Z3 (Zat a0 ha0) (fun r12 her12=>?_)
            refine Jp (fun hb12=>?_) (fun hb12=>?_)
            ·rfl
            ·rfl
noncomputable def S.Qe (a0:Zx) (b0:Zf):Bool :=
 letS (bif (a0.ZM != 0) then S.Vl b0 a0.ZA else default) (fun r1=>(a0.ZM != 0)&&(decide (r1 ≥ 0)))
theorem ZaY (a0:Zx) (b0:Zf) (ha0:Xp a0) (hb0:Zi b0):M.Qe a0 b0=some (S.Qe a0 b0):=by
 have hM:=Zo
 unfold M.Qe S.Qe
 refine Z3 (JA fun hg=>(Za4 b0 a0.ZA hb0)) (fun r1 her1=>?_)
 rfl
noncomputable def S.ZK (a0:List Zx) (a1c0:Zf) (i1:Nat):Option (Unit ⊕ Int) :=
 letS (S.Qe (a0.getD i1 default) a1c0) (fun r3=>bif r3 then (some (.inr (i1:Int))) else none)
theorem Vw (a0:List Zx) (a1c0:Zf) (ha0:LL Xp a0) (ha1c0:Zi a1c0) (i0:Nat):loopM (M.ZK a0 a1c0) (i0:Int)=some (runN (S.ZK a0 a1c0) (.inl ()) i0 (a0.length - i0)):=by
 have hM:=Zo
 have hni1:a0.length≤maxLen:=ha0.1
 refine Z6 (n:=a0.length) (fun i1 hi1=>?_) (fun m hm=>?_) i0
 ·unfold M.ZK S.ZK
  try simp only [Int.toNat_natCast]
  refine X2 (dt (by omega)) ?_
  refine ZU (ZaY (a0.getD i1 default) a1c0 (LL.getD ha0 Xp.dflt i1) ha1c0) (fun r3 her3=>?_)
  refine YD (Zw (dt (by omega)) (Zw (dt (by omega)) XP)) ?_
  refine XX (fun hb1=>?_) (fun hb1=>?_)
  ·exact XE
  ·exact JZ (by omega)
 ·unfold M.ZK
  try simp only [Int.toNat_natCast]
  exact X3 (decide_eq_false (by omega)) rfl
noncomputable def S.ZR (a0:List Zx) (a1c0:Zf):Int :=
 letS (runN (S.ZK a0 a1c0) (.inl ()) 0 a0.length) (fun y4=>Sum.elim (fun _=>-1) (fun y6=>y6) y4)
theorem VQ (a0:List Zx) (a1c0:Zf) (ha0:LL Xp a0) (ha1c0:Zi a1c0):M.ZR a0 a1c0=some (S.ZR a0 a1c0):=by
 have hM:=Zo
 unfold M.ZR S.ZR
 refine Z3 (Vw a0 a1c0 ha0 ha1c0 0) (fun y4 hey4=>?_)
 refine QG (fun _ hl=>?_) (fun y6 hly6=>?_)
 ·rfl
 ·rfl
noncomputable def S.ZL (a0:List Zx) (a1c0:Zf):Bool :=
 letS (S.ZR a0 a1c0) (fun r1=>decide (r1 ≥ 0))
theorem Vx (a0:List Zx) (a1c0:Zf) (ha0:LL Xp a0) (ha1c0:Zi a1c0):M.ZL a0 a1c0=some (S.ZL a0 a1c0):=by
 have hM:=Zo
 unfold M.ZL S.ZL
 refine Z3 (VQ a0 a1c0 ha0 ha1c0) (fun r1 her1=>?_)
 rfl
noncomputable def S.Jn (a0:Zf) (a1:Zf):Bool :=
 letS (S.ZL a1.Zc a0) (fun r1=>r1)
theorem Zb7 (a0:Zf) (a1:Zf) (ha0:Zi a0) (ha1:Zi a1):M.Jn a0 a1=some (S.Jn a0 a1):=by
 have hM:=Zo
 unfold M.Jn S.Jn
 refine Z3 (Vx a1.Zc a0 (Zi.Zc ha1) ha0) (fun r1 her1=>?_)
 rfl
noncomputable def S.Vg (a0:ZP) (i1:Nat) (i4:Nat):Option (Unit ⊕ Int) :=
 letS (bif (!(strEq ((((a0.Zd.drop 0).take (i1 - 0)).getD i4 default).ZH) ((a0.Zd.getD i1 default).ZH))) then S.Jn (((a0.Zd.drop 0).take (i1 - 0)).getD i4 default) (a0.Zd.getD i1 default) else default) (fun r6=>bif (strEq ((((a0.Zd.drop 0).take (i1 - 0)).getD i4 default).ZH) ((a0.Zd.getD i1 default).ZH))||r6 then (some (.inr 4)) else none)
theorem ZeF (a0:ZP) (i1:Nat) (ha0:Yy a0) (hi1:i1 < a0.Zd.length) (i0:Nat):loopM (M.Vg a0 (i1:Int)) (i0:Int)=some (runN (S.Vg a0 i1) (.inl ()) i0 (i1 - i0)):=by
 have hM:=Zo
 have hni1:a0.Zd.length≤maxLen:=(Yy.Zd ha0).1
 have hni4:i1≤maxLen:=(by omega)
 refine Z6 (n:=i1) (fun i4 hi4=>?_) (fun m hm=>?_) i0
 ·unfold M.Vg S.Vg
  try simp only [Int.toNat_natCast]
  refine X2 (dt (by omega)) ?_
  refine YD (Zw (dt (by omega)) (Zw (dt (by simp; omega)) XP)) ?_
  refine ZU (JA fun hg=>(Zb7 (((a0.Zd.drop 0).take (i1 - 0)).getD i4 default) (a0.Zd.getD i1 default) (LL.getD (LL.take (LL.drop (Yy.Zd ha0) _) _) Zi.dflt i4) (LL.getD (Yy.Zd ha0) Zi.dflt i1))) (fun r6 her6=>?_)
  refine XX (fun hb3=>?_) (fun hb3=>?_)
  ·exact XE
  ·exact JZ (by omega)
 ·unfold M.Vg
  try simp only [Int.toNat_natCast]
  exact X3 (decide_eq_false (by omega)) rfl
noncomputable def S.VN (a0:ZP) (i1:Nat):Option (Unit ⊕ Int) :=
 letS (S.Jg (a0.Zd.getD i1 default)) (fun r3=>bif r3 != 0 then (some (.inr r3)) else (letS (runN (S.Vg a0 i1) (.inl ()) 0 i1) (fun y7=>Sum.elim (fun _=>none) (fun y9=>some (.inr y9)) y7)))
theorem ZeG (a0:ZP) (ha0:Yy a0) (i0:Nat):loopM (M.VN a0) (i0:Int)=some (runN (S.VN a0) (.inl ()) i0 (a0.Zd.length - i0)):=by
 have hM:=Zo
 have hni1:a0.Zd.length≤maxLen:=(Yy.Zd ha0).1
 refine Z6 (n:=a0.Zd.length) (fun i1 hi1=>?_) (fun m hm=>?_) i0
 ·unfold M.VN S.VN
  try simp only [Int.toNat_natCast]
  refine X2 (dt (by omega)) ?_
  refine YD (Zw (dt (by omega)) (Zw (dt (by omega)) XP)) ?_
  refine ZU (ZcK (a0.Zd.getD i1 default) (LL.getD (Yy.Zd ha0) Zi.dflt i1)) (fun r3 her3=>?_)
  refine XX (fun hb2=>?_) (fun hb2=>?_)
  ·exact XE
  ·refine YD (Zw (dt (by omega)) (Zw (dt (by omega)) XP)) ?_
   refine ZU (ZeF a0 i1 ha0 hi1 0) (fun y7 hey7=>?_)
   refine J4 (fun _ hl=>?_) (fun y9 hly9=>?_)
   ·exact JZ (by omega)
   ·exact XE
 ·unfold M.VN
  try simp only [Int.toNat_natCast]
  exact X3 (decide_eq_false (by omega)) rfl
noncomputable def S.QS (a0:ZP):Int :=
 bif decide ((a0.Zd.length:Int) > 8) then 7 else (letS (runN (S.VN a0) (.inl ()) 0 a0.Zd.length) (fun y10=>Sum.elim (fun _=>0) (fun y12=>y12) y10))
theorem ZcY (a0:ZP) (ha0:Yy a0):M.QS a0=some (S.QS a0):=by
 have hM:=Zo
 unfold M.QS S.QS
 refine Jp (fun hb1=>?_) (fun hb1=>?_)
 ·rfl
 ·refine Z3 (ZeG a0 ha0 0) (fun y10 hey10=>?_)
  refine QG (fun _ hl=>?_) (fun y12 hly12=>?_)
  ·rfl
  ·rfl
end Nv
