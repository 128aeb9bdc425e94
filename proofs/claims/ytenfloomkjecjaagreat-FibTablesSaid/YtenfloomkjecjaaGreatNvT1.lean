/- Total forms of the mirrors. -/
import Derived.Test.YtenfloomkjecjaaGreatNvD1
import Derived.Test.YtenfloomkjecjaaGreatNvLibB
import Derived.Test.YtenfloomkjecjaaGreatNvQ0
set_option maxRecDepth 100000
namespace Nv
open Go
def YB (x:ZA):Prop:=(x.XG.size≤maxLen)∧(x.WH.size≤maxLen)∧(x.Qz.size≤maxLen)
theorem YB.XG {x:ZA} (h:YB x):x.XG.size≤maxLen:=h.1
theorem YB.WH {x:ZA} (h:YB x):x.WH.size≤maxLen:=h.2.1
theorem YB.Qz {x:ZA} (h:YB x):x.Qz.size≤maxLen:=h.2.2
theorem YB.dflt:YB default:=⟨(Nat.zero_le _),(Nat.zero_le _),(Nat.zero_le _)⟩
def Y1 (x:Z1):Prop:=(x.XG.size≤maxLen)∧(x.Y7.length≤maxLen)
theorem Y1.XG {x:Z1} (h:Y1 x):x.XG.size≤maxLen:=h.1
theorem Y1.Y7 {x:Z1} (h:Y1 x):x.Y7.length≤maxLen:=h.2
theorem Y1.dflt:Y1 default:=⟨(Nat.zero_le _),(Nat.zero_le _)⟩
def Gq (x:Zb7):Prop:=(x.VO.size≤maxLen)
theorem Gq.VO {x:Zb7} (h:Gq x):x.VO.size≤maxLen:=h
theorem Gq.dflt:Gq default:=(Nat.zero_le _)
def JP (x:Yt):Prop:=(x.XG.size≤maxLen)∧(LL Gq x.Ya)
theorem JP.XG {x:Yt} (h:JP x):x.XG.size≤maxLen:=h.1
theorem JP.Ya {x:Yt} (h:JP x):LL Gq x.Ya:=h.2
theorem JP.dflt:JP default:=⟨(Nat.zero_le _),⟨Nat.zero_le _,fun _ h=>absurd h List.not_mem_nil⟩⟩
def Gi (x:U6):Prop:=(x.XG.size≤maxLen)∧(x.Y7.length≤maxLen)
theorem Gi.XG {x:U6} (h:Gi x):x.XG.size≤maxLen:=h.1
theorem Gi.Y7 {x:U6} (h:Gi x):x.Y7.length≤maxLen:=h.2
theorem Gi.dflt:Gi default:=⟨(Nat.zero_le _),(Nat.zero_le _)⟩
def VW (x:QF):Prop:=(x.VO.size≤maxLen)
theorem VW.VO {x:QF} (h:VW x):x.VO.size≤maxLen:=h
theorem VW.dflt:VW default:=(Nat.zero_le _)
def VX (x:X8):Prop:=(x.ZP.size≤maxLen)
theorem VX.ZP {x:X8} (h:VX x):x.ZP.size≤maxLen:=h
theorem VX.dflt:VX default:=(Nat.zero_le _)
def VY (x:QB):Prop:=(x.Zex.size≤maxLen)
theorem VY.Zex {x:QB} (h:VY x):x.Zex.size≤maxLen:=h
theorem VY.dflt:VY default:=(Nat.zero_le _)
def J7 (x:WB):Prop:=(x.Z6.length≤maxLen)∧(LL VY x.Zu)
theorem J7.Z6 {x:WB} (h:J7 x):x.Z6.length≤maxLen:=h.1
theorem J7.Zu {x:WB} (h:J7 x):LL VY x.Zu:=h.2
theorem J7.dflt:J7 default:=⟨(Nat.zero_le _),⟨Nat.zero_le _,fun _ h=>absurd h List.not_mem_nil⟩⟩
def Yq (x:Qi):Prop:=(x.WH.size≤maxLen)∧(x.Qz.size≤maxLen)∧(LL VY x.Zu)
theorem Yq.WH {x:Qi} (h:Yq x):x.WH.size≤maxLen:=h.1
theorem Yq.Qz {x:Qi} (h:Yq x):x.Qz.size≤maxLen:=h.2.1
theorem Yq.Zu {x:Qi} (h:Yq x):LL VY x.Zu:=h.2.2
theorem Yq.dflt:Yq default:=⟨(Nat.zero_le _),(Nat.zero_le _),⟨Nat.zero_le _,fun _ h=>absurd h List.not_mem_nil⟩⟩
def VH (x:VB):Prop:=(x.WH.size≤maxLen)∧(x.Qz.size≤maxLen)
theorem VH.WH {x:VB} (h:VH x):x.WH.size≤maxLen:=h.1
theorem VH.Qz {x:VB} (h:VH x):x.Qz.size≤maxLen:=h.2
theorem VH.dflt:VH default:=⟨(Nat.zero_le _),(Nat.zero_le _)⟩
def Xr (x:XO):Prop:=(LL VH x.Zp)∧(x.ZY.length≤maxLen)∧(x.ZG.length≤maxLen)∧(x.Zv.length≤maxLen)∧(LL VY x.Zu)
theorem Xr.Zp {x:XO} (h:Xr x):LL VH x.Zp:=h.1
theorem Xr.ZY {x:XO} (h:Xr x):x.ZY.length≤maxLen:=h.2.1
theorem Xr.ZG {x:XO} (h:Xr x):x.ZG.length≤maxLen:=h.2.2.1
theorem Xr.Zv {x:XO} (h:Xr x):x.Zv.length≤maxLen:=h.2.2.2.1
theorem Xr.Zu {x:XO} (h:Xr x):LL VY x.Zu:=h.2.2.2.2
theorem Xr.dflt:Xr default:=⟨⟨Nat.zero_le _,fun _ h=>absurd h List.not_mem_nil⟩,(Nat.zero_le _),(Nat.zero_le _),(Nat.zero_le _),⟨Nat.zero_le _,fun _ h=>absurd h List.not_mem_nil⟩⟩
def Zr (x:Zi):Prop:=(x.XG.size≤maxLen)∧(LL YB x.Zc)∧(LL Y1 x.YV)∧(LL JP x.XP)∧(LL Gi x.Y5)∧(LL VW x.Xf)∧(LL VX x.Zq)∧(J7 x.YC)∧(Yq x.YK)∧(Xr x.Xz)
theorem Zr.XG {x:Zi} (h:Zr x):x.XG.size≤maxLen:=h.1
theorem Zr.Zc {x:Zi} (h:Zr x):LL YB x.Zc:=h.2.1
theorem Zr.YV {x:Zi} (h:Zr x):LL Y1 x.YV:=h.2.2.1
theorem Zr.XP {x:Zi} (h:Zr x):LL JP x.XP:=h.2.2.2.1
theorem Zr.Y5 {x:Zi} (h:Zr x):LL Gi x.Y5:=h.2.2.2.2.1
theorem Zr.Xf {x:Zi} (h:Zr x):LL VW x.Xf:=h.2.2.2.2.2.1
theorem Zr.Zq {x:Zi} (h:Zr x):LL VX x.Zq:=h.2.2.2.2.2.2.1
theorem Zr.YC {x:Zi} (h:Zr x):J7 x.YC:=h.2.2.2.2.2.2.2.1
theorem Zr.YK {x:Zi} (h:Zr x):Yq x.YK:=h.2.2.2.2.2.2.2.2.1
theorem Zr.Xz {x:Zi} (h:Zr x):Xr x.Xz:=h.2.2.2.2.2.2.2.2.2
theorem Zr.dflt:Zr default:=⟨(Nat.zero_le _),⟨Nat.zero_le _,fun _ h=>absurd h List.not_mem_nil⟩,⟨Nat.zero_le _,fun _ h=>absurd h List.not_mem_nil⟩,⟨Nat.zero_le _,fun _ h=>absurd h List.not_mem_nil⟩,⟨Nat.zero_le _,fun _ h=>absurd h List.not_mem_nil⟩,⟨Nat.zero_le _,fun _ h=>absurd h List.not_mem_nil⟩,⟨Nat.zero_le _,fun _ h=>absurd h List.not_mem_nil⟩,J7.dflt,Yq.dflt,Xr.dflt⟩
def YY (x:ZI):Prop:=(LL Zr x.Ze)
theorem YY.Ze {x:ZI} (h:YY x):LL Zr x.Ze:=h
def QX (x:ZM):Prop:=(x.Ua.length≤maxLen)∧(x.ZQ.length≤maxLen)
theorem QX.Ua {x:ZM} (h:QX x):x.Ua.length≤maxLen:=h.1
theorem QX.ZQ {x:ZM} (h:QX x):x.ZQ.length≤maxLen:=h.2
theorem QX.dflt:QX default:=⟨(Nat.zero_le _),(Nat.zero_le _)⟩
def U5 (x:Zj):Prop:=(x.ZW.length≤maxLen)
theorem U5.ZW {x:Zj} (h:U5 x):x.ZW.length≤maxLen:=h
theorem U5.dflt:U5 default:=(Nat.zero_le _)
def VI (x:JZ):Prop:=(LL U5 x.Xe)∧(x.J0.length≤maxLen)
theorem VI.Xe {x:JZ} (h:VI x):LL U5 x.Xe:=h.1
theorem VI.J0 {x:JZ} (h:VI x):x.J0.length≤maxLen:=h.2
def J8 (x:XL):Prop:=(YY x.Zcb)∧(VI x.Yf)∧(x.Jx.length≤maxLen)
theorem J8.Yf {x:XL} (h:J8 x):VI x.Yf:=h.2.1
theorem J8.Jx {x:XL} (h:J8 x):x.Jx.length≤maxLen:=h.2.2
noncomputable def S.Wj (a0:Zi) (i1:Nat):Option (Unit ⊕ Bool) :=
 bif decide ((((a0.YV.getD i1 default).Y7).length:Int) > 20) then (some (.inr false)) else none
theorem Zfv (a0:Zi) (ha0:Zr a0) (i0:Nat):loopM (M.Wj a0) (i0:Int)=some (runN (S.Wj a0) (.inl ()) i0 (a0.YV.length - i0)):=by
 have hM:=Zn
 have hni1:a0.YV.length≤maxLen:=(Zr.YV ha0).1
 refine Xq (n:=a0.YV.length) (fun i1 hi1=>?_) (fun m hm=>?_) i0
 ·unfold M.Wj S.Wj
  try simp only [Int.toNat_natCast]
  refine Yz (dt (by omega)) ?_
  refine Jk (Zz (dt (by omega)) (Zz (dt (by omega)) Ym)) ?_
  refine Yr (fun hb2=>?_) (fun hb2=>?_)
  ·exact X9
  ·exact Wi (by omega)
 ·unfold M.Wj
  try simp only [Int.toNat_natCast]
  exact YA (decide_eq_false (by omega)) rfl
noncomputable def S.Wk (a0:Zi) (i6:Nat):Option (Unit ⊕ Bool) :=
 bif decide ((((a0.XP.getD i6 default).Ya).length:Int) > 12) then (some (.inr false)) else none
theorem Zfw (a0:Zi) (ha0:Zr a0) (i0:Nat):loopM (M.Wk a0) (i0:Int)=some (runN (S.Wk a0) (.inl ()) i0 (a0.XP.length - i0)):=by
 have hM:=Zn
 have hni6:a0.XP.length≤maxLen:=(Zr.XP ha0).1
 refine Xq (n:=a0.XP.length) (fun i6 hi6=>?_) (fun m hm=>?_) i0
 ·unfold M.Wk S.Wk
  try simp only [Int.toNat_natCast]
  refine Yz (dt (by omega)) ?_
  refine Jk (Zz (dt (by omega)) (Zz (dt (by omega)) Ym)) ?_
  refine Yr (fun hb3=>?_) (fun hb3=>?_)
  ·exact X9
  ·exact Wi (by omega)
 ·unfold M.Wk
  try simp only [Int.toNat_natCast]
  exact YA (decide_eq_false (by omega)) rfl
noncomputable def S.Wl (a0:Zi) (i11:Nat):Option (Unit ⊕ Bool) :=
 bif decide ((((a0.Y5.getD i11 default).Y7).length:Int) > 20) then (some (.inr false)) else none
theorem Zfx (a0:Zi) (ha0:Zr a0) (i0:Nat):loopM (M.Wl a0) (i0:Int)=some (runN (S.Wl a0) (.inl ()) i0 (a0.Y5.length - i0)):=by
 have hM:=Zn
 have hni11:a0.Y5.length≤maxLen:=(Zr.Y5 ha0).1
 refine Xq (n:=a0.Y5.length) (fun i11 hi11=>?_) (fun m hm=>?_) i0
 ·unfold M.Wl S.Wl
  try simp only [Int.toNat_natCast]
  refine Yz (dt (by omega)) ?_
  refine Jk (Zz (dt (by omega)) (Zz (dt (by omega)) Ym)) ?_
  refine Yr (fun hb4=>?_) (fun hb4=>?_)
  ·exact X9
  ·exact Wi (by omega)
 ·unfold M.Wl
  try simp only [Int.toNat_natCast]
  exact YA (decide_eq_false (by omega)) rfl
noncomputable def S.Wc (a0:Zi):Bool :=
 bif (((((((((((((decide ((a0.Zc.length:Int) > 12))||(decide ((a0.YV.length:Int) > 12)))||(decide ((a0.XP.length:Int) > 12)))||(decide ((a0.Y5.length:Int) > 12)))||(decide ((a0.Xf.length:Int) > 12)))||(decide ((a0.Zq.length:Int) > 20)))||(decide ((a0.YC.Z6.length:Int) > 8)))||(decide ((a0.YC.Zu.length:Int) > 8)))||(decide ((a0.YK.Zu.length:Int) > 8)))||(decide ((a0.Xz.Zu.length:Int) > 8)))||(decide ((a0.Xz.Zp.length:Int) > 12)))||(decide ((a0.Xz.ZY.length:Int) > 12)))||(decide ((a0.Xz.ZG.length:Int) > 12)))||(decide ((a0.Xz.Zv.length:Int) > 12)) then false else (letS (runN (S.Wj a0) (.inl ()) 0 a0.YV.length) (fun y3=>Sum.elim (fun _=>letS (runN (S.Wk a0) (.inl ()) 0 a0.XP.length) (fun y8=>Sum.elim (fun _=>letS (runN (S.Wl a0) (.inl ()) 0 a0.Y5.length) (fun y13=>Sum.elim (fun _=>true) (fun y15=>y15) y13)) (fun y10=>y10) y8)) (fun y5=>y5) y3))
theorem Zib (a0:Zi) (ha0:Zr a0):M.Wc a0=some (S.Wc a0):=by
 have hM:=Zn
 unfold M.Wc S.Wc
 refine VZ (fun hb1=>?_) (fun hb1=>?_)
 ·rfl
 ·refine Xa (Zfv a0 ha0 0) (fun y3 hey3=>?_)
  refine JA (fun _ hl=>?_) (fun y5 hly5=>?_)
  ·refine Xa (Zfw a0 ha0 0) (fun y8 hey8=>?_)
   refine JA (fun _ hl=>?_) (fun y10 hly10=>?_)
   ·refine Xa (Zfx a0 ha0 0) (fun y13 hey13=>?_)
    refine JA (fun _ hl=>?_) (fun y15 hly15=>?_)
    ·rfl
    ·rfl
   ·rfl
  ·rfl
noncomputable def S.QO (a0:ZI) (i1:Nat):Option (Unit ⊕ Bool) :=
 letS (S.Wc (a0.Ze.getD i1 default)) (fun r3=>bif !r3 then (some (.inr false)) else none)
theorem ZeQ (a0:ZI) (ha0:YY a0) (i0:Nat):loopM (M.QO a0) (i0:Int)=some (runN (S.QO a0) (.inl ()) i0 (a0.Ze.length - i0)):=by
 have hM:=Zn
 have hni1:a0.Ze.length≤maxLen:=(YY.Ze ha0).1
 refine Xq (n:=a0.Ze.length) (fun i1 hi1=>?_) (fun m hm=>?_) i0
 ·unfold M.QO S.QO
  try simp only [Int.toNat_natCast]
  refine Yz (dt (by omega)) ?_
  refine Xy (Zib (a0.Ze.getD i1 default) (LL.getD (YY.Ze ha0) Zr.dflt i1)) (fun r3 her3=>?_)
  refine Jk (Zz (dt (by omega)) (Zz (dt (by omega)) Ym)) ?_
  refine Yr (fun hb2=>?_) (fun hb2=>?_)
  ·exact X9
  ·exact Wi (by omega)
 ·unfold M.QO
  try simp only [Int.toNat_natCast]
  exact YA (decide_eq_false (by omega)) rfl
noncomputable def S.VC (a0:ZI):Bool :=
 bif decide ((a0.Ze.length:Int) > 9) then false else (letS (runN (S.QO a0) (.inl ()) 0 a0.Ze.length) (fun y4=>Sum.elim (fun _=>true) (fun y6=>y6) y4))
theorem Zha (a0:ZI) (ha0:YY a0):M.VC a0=some (S.VC a0):=by
 have hM:=Zn
 unfold M.VC S.VC
 refine VZ (fun hb1=>?_) (fun hb1=>?_)
 ·rfl
 ·refine Xa (ZeQ a0 ha0 0) (fun y4 hey4=>?_)
  refine JA (fun _ hl=>?_) (fun y6 hly6=>?_)
  ·rfl
  ·rfl
noncomputable def S.Ws (a0:Int):Bool :=
 ((decide (a0 ≥ 97))&&(decide (a0≤122)))||((decide (a0 ≥ 65))&&(decide (a0≤90)))
theorem ZcF (a0:Int) :M.Ws a0=some (S.Ws a0):=by
 have hM:=Zn
 unfold M.Ws S.Ws
 rfl
noncomputable def S.WI (a0:ByteArray) (i2:Nat):Option (Unit ⊕ Bool) :=
 letS (S.Ws (byteAt a0 (i2:Int))) (fun r4=>bif (((((!r4)&&(!((decide ((byteAt a0 (i2:Int)) ≥ 48))&&(decide ((byteAt a0 (i2:Int))≤57)))))&&((byteAt a0 (i2:Int)) != 45))&&((byteAt a0 (i2:Int)) != 95))&&((byteAt a0 (i2:Int)) != 47))&&((byteAt a0 (i2:Int)) != 46) then (some (.inr false)) else none)
theorem ZgM (a0:ByteArray) (ha0:a0.size≤maxLen) (i0:Nat):loopM (M.WI a0) (i0:Int)=some (runN (S.WI a0) (.inl ()) i0 (a0.size - i0)):=by
 have hM:=Zn
 have hni2:a0.size≤maxLen:=ha0
 refine Xq (n:=a0.size) (fun i2 hi2=>?_) (fun m hm=>?_) i0
 ·unfold M.WI S.WI
  try simp only [Int.toNat_natCast]
  refine Yz (dt (by omega)) ?_
  refine Jk (Zz (dt (by omega)) (Zz (dt (by omega)) Ym)) ?_
  refine Xy (ZcF (byteAt a0 (i2:Int))) (fun r4 her4=>?_)
  refine Yr (fun hb2=>?_) (fun hb2=>?_)
  ·exact X9
  ·exact Wi (by omega)
 ·unfold M.WI
  try simp only [Int.toNat_natCast]
  exact YA (decide_eq_false (by omega)) rfl
noncomputable def S.Jy (a0:ByteArray):Bool :=
 letS (bif (!((decide ((a0.size:Int) < 1))||(decide ((a0.size:Int) > 15)))) then S.Ws (byteAt a0 0) else default) (fun r1=>bif ((decide ((a0.size:Int) < 1))||(decide ((a0.size:Int) > 15)))||(!r1) then false else (letS (runN (S.WI a0) (.inl ()) 1 (a0.size - 1)) (fun y5=>Sum.elim (fun _=>true) (fun y7=>y7) y5)))
theorem KF (a0:ByteArray) (ha0:a0.size≤maxLen):M.Jy a0=some (S.Jy a0):=by
 have hM:=Zn
 unfold M.Jy S.Jy
 refine Xa (Vx fun hg=>(ZcF (byteAt a0 0))) (fun r1 her1=>?_)
 refine Jk (Zz (X5 fun hg=>(dt (by first | omega | (simp; omega) | (simp at *; omega)))) (Zz (X5 fun hg=>(dt (by first | omega | (simp; omega) | (simp at *; omega)))) Ym)) ?_
 refine VZ (fun hb1=>?_) (fun hb1=>?_)
 ·rfl
 ·refine Xa (ZgM a0 ha0 1) (fun y5 hey5=>?_)
  refine JA (fun _ hl=>?_) (fun y7 hly7=>?_)
  ·rfl
  ·rfl
noncomputable def S.ZT (a0:Int) (a1:Int) (a2:Int):Bool :=
 (decide (a1≤a0))&&(decide (a0≤a2))
theorem X4 (a0:Int) (a1:Int) (a2:Int) :M.ZT a0 a1 a2=some (S.ZT a0 a1 a2):=by
 have hM:=Zn
 unfold M.ZT S.ZT
 rfl
noncomputable def S.QY (a0:Int) (a1:Int):ZL :=
 letS (S.J1 (if 0 > (if 32 < a1 then 32 else a1) then 0 else (if 32 < a1 then 32 else a1))) (fun r1=>(⟨bitD .and .u32 a0 r1,if 0 > (if 32 < a1 then 32 else a1) then 0 else (if 32 < a1 then 32 else a1)⟩:ZL))
theorem Rb (a0:Int) (a1:Int) :M.QY a0 a1=some (S.QY a0 a1):=by
 have hM:=Zn
 unfold M.QY S.QY
 refine Xa (ZbK (if 0 > (if 32 < a1 then 32 else a1) then 0 else (if 32 < a1 then 32 else a1))) (fun r1 her1=>?_)
 rfl
noncomputable def S.Jf (a0:ZL) (a1:Int):Bool :=
 letS (S.J1 a0.ZE) (fun r1=>(bitD .and .u32 a1 r1)==a0.Zm)
theorem ZaK (a0:ZL) (a1:Int) :M.Jf a0 a1=some (S.Jf a0 a1):=by
 have hM:=Zn
 unfold M.Jf S.Jf
 refine Xa (ZbK a0.ZE) (fun r1 her1=>?_)
 rfl
noncomputable def S.VD (a0:ZL) (a1:ZL):Bool :=
 letS (bif (decide (a0.ZE≤a1.ZE)) then S.Jf a0 a1.Zm else default) (fun r1=>(decide (a0.ZE≤a1.ZE))&&r1)
theorem ZcG (a0:ZL) (a1:ZL) :M.VD a0 a1=some (S.VD a0 a1):=by
 have hM:=Zn
 unfold M.VD S.VD
 refine Xa (Vx fun hg=>(ZaK a0 a1.Zm)) (fun r1 her1=>?_)
 rfl
noncomputable def S.QR (a0:ZL) (a1:ZL):Bool :=
 letS (S.VD a0 a1) (fun r1=>letS (bif (!r1) then S.VD a1 a0 else default) (fun r2=>r1||r2))
theorem ZaL (a0:ZL) (a1:ZL) :M.QR a0 a1=some (S.QR a0 a1):=by
 have hM:=Zn
 unfold M.QR S.QR
 refine Xa (ZcG a0 a1) (fun r1 her1=>?_)
 refine Xa (Vx fun hg=>(ZcG a1 a0)) (fun r2 her2=>?_)
 rfl
noncomputable def S.Y8 (a0:List ZA) (i1:Nat) (i4:Nat):Option (Unit ⊕ Int) :=
 bif strEq ((a0.getD i4 default).XG) ((a0.getD i1 default).XG) then (some (.inr 4)) else none
theorem ZbL (a0:List ZA) (i1:Nat) (ha0:LL YB a0) (hi1:i1 < a0.length) (i0:Nat):loopM (M.Y8 a0 (i1:Int)) (i0:Int)=some (runN (S.Y8 a0 i1) (.inl ()) i0 (i1 - i0)):=by
 have hM:=Zn
 have hni1:a0.length≤maxLen:=ha0.1
 have hni4:i1≤maxLen:=(by omega)
 refine Xq (n:=i1) (fun i4 hi4=>?_) (fun m hm=>?_) i0
 ·unfold M.Y8 S.Y8
  try simp only [Int.toNat_natCast]
  refine Yz (dt (by omega)) ?_
  refine Jk (Zz (dt (by omega)) (Zz (dt (by omega)) Ym)) ?_
  refine Yr (fun hb3=>?_) (fun hb3=>?_)
  ·exact X9
  ·exact Wi (by omega)
 ·unfold M.Y8
  try simp only [Int.toNat_natCast]
  exact YA (decide_eq_false (by omega)) rfl
noncomputable def S.YL (a0:List ZA) (i1:Nat) (i14:Nat):Option (Unit ⊕ Int) :=
 letS (bif ((((a0.getD i1 default).ZE) != 0)&&(((a0.getD i14 default).ZE) != 0)) then S.QY ((a0.getD i1 default).Zm) ((a0.getD i1 default).ZE) else default) (fun r16=>letS (bif ((((a0.getD i1 default).ZE) != 0)&&(((a0.getD i14 default).ZE) != 0)) then S.QY ((a0.getD i14 default).Zm) ((a0.getD i14 default).ZE) else default) (fun r17=>letS (bif ((((a0.getD i1 default).ZE) != 0)&&(((a0.getD i14 default).ZE) != 0)) then S.QR r16 r17 else default) (fun r18=>bif ((((a0.getD i1 default).ZE) != 0)&&(((a0.getD i14 default).ZE) != 0))&&r18 then (some (.inr 6)) else none)))
theorem ZbM (a0:List ZA) (i1:Nat) (ha0:LL YB a0) (hi1:i1 < a0.length) (i0:Nat):loopM (M.YL a0 (i1:Int)) (i0:Int)=some (runN (S.YL a0 i1) (.inl ()) i0 (i1 - i0)):=by
 have hM:=Zn
 have hni1:a0.length≤maxLen:=ha0.1
 have hni14:i1≤maxLen:=(by omega)
 refine Xq (n:=i1) (fun i14 hi14=>?_) (fun m hm=>?_) i0
 ·unfold M.YL S.YL
  try simp only [Int.toNat_natCast]
  refine Yz (dt (by omega)) ?_
  refine Xy (Vx fun hg=>(Rb ((a0.getD i1 default).Zm) ((a0.getD i1 default).ZE))) (fun r16 her16=>?_)
  refine Xy (Vx fun hg=>(Rb ((a0.getD i14 default).Zm) ((a0.getD i14 default).ZE))) (fun r17 her17=>?_)
  refine Xy (Vx fun hg=>(ZaL r16 r17)) (fun r18 her18=>?_)
  refine Jk (Zz (X5 fun hg=>(dt (by first | omega | (simp; omega) | (simp at *; omega)))) (Zz (X5 fun hg=>(dt (by first | omega | (simp; omega) | (simp at *; omega)))) (Zz (X5 fun hg=>(dt (by first | omega | (simp; omega) | (simp at *; omega)))) (Zz (X5 fun hg=>(dt (by first | omega | (simp; omega) | (simp at *; omega)))) (Zz (X5 fun hg=>(dt (by first | omega | (simp; omega) | (simp at *; omega)))) (Zz (X5 fun hg=>(dt (by first | omega | (simp; omega) | (simp at *; omega)))) Ym)))))) ?_
  refine Yr (fun hb7=>?_) (fun hb7=>?_)
  ·exact X9
  ·exact Wi (by omega)
 ·unfold M.YL
  try simp only [Int.toNat_natCast]
  exact YA (decide_eq_false (by omega)) rfl
noncomputable def S.YM (a0:List ZA) (i1:Nat):Option (Unit ⊕ Int) :=
 letS (S.Jy ((a0.getD i1 default).XG)) (fun r3=>bif !r3 then (some (.inr 3)) else (letS (runN (S.Y8 a0 i1) (.inl ()) 0 i1) (fun y6=>Sum.elim (fun _=>letS (S.ZT ((a0.getD i1 default).ZE) 0 32) (fun r9=>letS (bif (!(!r9)) then S.ZT ((a0.getD i1 default).XN) 0 4094 else default) (fun r10=>letS (bif (!((!r9)||(!r10))) then S.ZT ((a0.getD i1 default).Zbj) 0 2 else default) (fun r11=>bif ((!r9)||(!r10))||(!r11) then (some (.inr 1)) else (bif ((((a0.getD i1 default).ZE)==0)&&(((((((((a0.getD i1 default).Zm) != 0)||(((a0.getD i1 default).XN) != 0))||(((a0.getD i1 default).Zbj) != 0))||((a0.getD i1 default).YC))||((a0.getD i1 default).YK))||(!strEq ((a0.getD i1 default).WH) (⟨#[]⟩:ByteArray)))||(!strEq ((a0.getD i1 default).Qz) (⟨#[]⟩:ByteArray))))||((((a0.getD i1 default).ZE) != 0)&&(((a0.getD i1 default).Zm)==0)) then (some (.inr 1)) else (letS (bif ((a0.getD i1 default).YC) then S.ZT ((a0.getD i1 default).WS) 0 255 else default) (fun r12=>letS (bif (((a0.getD i1 default).YC) && !(!r12)) then S.ZT ((a0.getD i1 default).ZdL) 1 65535 else default) (fun r13=>bif (((a0.getD i1 default).YC)&&((!r12)||(!r13)))||((!((a0.getD i1 default).YC))&&((((a0.getD i1 default).WS) != 0)||(((a0.getD i1 default).ZdL) != 0))) then (some (.inr 1)) else (letS (runN (S.YL a0 i1) (.inl ()) 0 i1) (fun y19=>Sum.elim (fun _=>none) (fun y21=>some (.inr y21)) y19)))))))))) (fun y8=>some (.inr y8)) y6)))
theorem ZbN (a0:List ZA) (ha0:LL YB a0) (i0:Nat):loopM (M.YM a0) (i0:Int)=some (runN (S.YM a0) (.inl ()) i0 (a0.length - i0)):=by
 have hM:=Zn
 have hni1:a0.length≤maxLen:=ha0.1
 refine Xq (n:=a0.length) (fun i1 hi1=>?_) (fun m hm=>?_) i0
 ·unfold M.YM S.YM
  try simp only [Int.toNat_natCast]
  refine Yz (dt (by omega)) ?_
  refine Jk (Zz (dt (by omega)) (Zz (dt (by omega)) Ym)) ?_
  refine Xy (KF ((a0.getD i1 default).XG) (YB.XG (LL.getD ha0 YB.dflt i1))) (fun r3 her3=>?_)
  refine Yr (fun hb2=>?_) (fun hb2=>?_)
  ·exact X9
  ·refine Xy (ZbL a0 i1 ha0 hi1 0) (fun y6 hey6=>?_)
   refine WG (fun _ hl=>?_) (fun y8 hly8=>?_)
   ·refine Xy (X4 ((a0.getD i1 default).ZE) 0 32) (fun r9 her9=>?_)
    refine Xy (Vx fun hg=>(X4 ((a0.getD i1 default).XN) 0 4094)) (fun r10 her10=>?_)
    refine Xy (Vx fun hg=>(X4 ((a0.getD i1 default).Zbj) 0 2)) (fun r11 her11=>?_)
    refine Yr (fun hb4=>?_) (fun hb4=>?_)
    ·exact X9
    ·refine Yr (fun hb5=>?_) (fun hb5=>?_)
     ·exact X9
     ·refine Xy (Vx fun hg=>(X4 ((a0.getD i1 default).WS) 0 255)) (fun r12 her12=>?_)
      refine Xy (Vx fun hg=>(X4 ((a0.getD i1 default).ZdL) 1 65535)) (fun r13 her13=>?_)
      refine Yr (fun hb6=>?_) (fun hb6=>?_)
      ·exact X9
      ·refine Xy (ZbM a0 i1 ha0 hi1 0) (fun y19 hey19=>?_)
       refine WG (fun _ hl=>?_) (fun y21 hly21=>?_)
       ·exact Wi (by omega)
       ·exact X9
   ·exact X9
 ·unfold M.YM
  try simp only [Int.toNat_natCast]
  exact YA (decide_eq_false (by omega)) rfl
noncomputable def S.Yx (a0:List ZA):Int :=
 bif decide ((a0.length:Int) > 8) then 7 else (letS (runN (S.YM a0) (.inl ()) 0 a0.length) (fun y22=>Sum.elim (fun _=>0) (fun y24=>y24) y22))
theorem Zec (a0:List ZA) (ha0:LL YB a0):M.Yx a0=some (S.Yx a0):=by
 have hM:=Zn
 unfold M.Yx S.Yx
 refine VZ (fun hb1=>?_) (fun hb1=>?_)
 ·rfl
 ·refine Xa (ZbN a0 ha0 0) (fun y22 hey22=>?_)
  refine JA (fun _ hl=>?_) (fun y24 hly24=>?_)
  ·rfl
  ·rfl
noncomputable def S.Y9 (a0:ZL):Bool :=
 letS (bif ((decide (a0.ZE ≥ 0))&&(decide (a0.ZE≤32))) then S.J1 a0.ZE else default) (fun r1=>((decide (a0.ZE ≥ 0))&&(decide (a0.ZE≤32)))&&((bitD .andNot .u32 a0.Zm r1)==0))
theorem Uj (a0:ZL) :M.Y9 a0=some (S.Y9 a0):=by
 have hM:=Zn
 unfold M.Y9 S.Y9
 refine Xa (Vx fun hg=>(ZbK a0.ZE)) (fun r1 her1=>?_)
 rfl
noncomputable def S.Ql (a0:Gc):Bool :=
 letS (S.Y9 a0.Zh) (fun r1=>((r1&&(decide (a0.Zh.ZE≤a0.Zk7)))&&(decide (a0.Zk7≤a0.Zk8)))&&(decide (a0.Zk8≤32)))
theorem Zau (a0:Gc) :M.Ql a0=some (S.Ql a0):=by
 have hM:=Zn
 unfold M.Ql S.Ql
 refine Xa (Uj a0.Zh) (fun r1 her1=>?_)
 rfl
noncomputable def S.QG (a0:List Z1) (i1:Nat) (i4:Nat):Option (Unit ⊕ Int) :=
 bif strEq ((a0.getD i4 default).XG) ((a0.getD i1 default).XG) then (some (.inr 4)) else none
theorem ZaS (a0:List Z1) (i1:Nat) (ha0:LL Y1 a0) (hi1:i1 < a0.length) (i0:Nat):loopM (M.QG a0 (i1:Int)) (i0:Int)=some (runN (S.QG a0 i1) (.inl ()) i0 (i1 - i0)):=by
 have hM:=Zn
 have hni1:a0.length≤maxLen:=ha0.1
 have hni4:i1≤maxLen:=(by omega)
 refine Xq (n:=i1) (fun i4 hi4=>?_) (fun m hm=>?_) i0
 ·unfold M.QG S.QG
  try simp only [Int.toNat_natCast]
  refine Yz (dt (by omega)) ?_
  refine Jk (Zz (dt (by omega)) (Zz (dt (by omega)) (Zz (dt (by omega)) (Zz (dt (by omega)) Ym)))) ?_
  refine Yr (fun hb3=>?_) (fun hb3=>?_)
  ·exact X9
  ·exact Wi (by omega)
 ·unfold M.QG
  try simp only [Int.toNat_natCast]
  exact YA (decide_eq_false (by omega)) rfl
noncomputable def S.QH (a0:List Z1) (i1:Nat) (i9:Nat):Option (Unit ⊕ Int) :=
 letS (S.Ql (((a0.getD i1 default).Y7).getD i9 default)) (fun r11=>bif !r11 then (some (.inr 1)) else none)
theorem ZaT (a0:List Z1) (i1:Nat) (ha0:LL Y1 a0) (hi1:i1 < a0.length) (i0:Nat):loopM (M.QH a0 (i1:Int)) (i0:Int)=some (runN (S.QH a0 i1) (.inl ()) i0 (((a0.getD i1 default).Y7).length - i0)):=by
 have hM:=Zn
 have hni1:a0.length≤maxLen:=ha0.1
 have hni9:((a0.getD i1 default).Y7).length≤maxLen:=(Y1.Y7 (LL.getD ha0 Y1.dflt i1))
 refine Xq (n:=((a0.getD i1 default).Y7).length) (fun i9 hi9=>?_) (fun m hm=>?_) i0
 ·unfold M.QH S.QH
  try simp only [Int.toNat_natCast]
  refine Jk (Zz (dt (by omega)) (Zz (dt (by omega)) Ym))  ?_
  refine Yz (dt (by omega)) ?_
  refine Xy (Zau (((a0.getD i1 default).Y7).getD i9 default)) (fun r11 her11=>?_)
  refine Jk (Zz (dt (by omega)) (Zz (dt (by omega)) (Zz (dt (by omega)) (Zz (dt (by omega)) Ym)))) ?_
  refine Yr (fun hb6=>?_) (fun hb6=>?_)
  ·exact X9
  ·exact Wi (by omega)
 ·unfold M.QH
  try simp only [Int.toNat_natCast]
  refine Jk (Zz (dt (by omega)) (Zz (dt (by omega)) Ym))  ?_
  exact YA (decide_eq_false (by omega)) rfl
noncomputable def S.QI (a0:List Z1) (i1:Nat):Option (Unit ⊕ Int) :=
 letS (S.Jy ((a0.getD i1 default).XG)) (fun r3=>bif !r3 then (some (.inr 3)) else (letS (runN (S.QG a0 i1) (.inl ()) 0 i1) (fun y6=>Sum.elim (fun _=>bif (((a0.getD i1 default).Y7).length:Int)==0 then (some (.inr 1)) else (bif decide ((((a0.getD i1 default).Y7).length:Int) > 16) then (some (.inr 7)) else (letS (runN (S.QH a0 i1) (.inl ()) 0 (((a0.getD i1 default).Y7).length)) (fun y12=>Sum.elim (fun _=>none) (fun y14=>some (.inr y14)) y12)))) (fun y8=>some (.inr y8)) y6)))
theorem ZaU (a0:List Z1) (ha0:LL Y1 a0) (i0:Nat):loopM (M.QI a0) (i0:Int)=some (runN (S.QI a0) (.inl ()) i0 (a0.length - i0)):=by
 have hM:=Zn
 have hni1:a0.length≤maxLen:=ha0.1
 refine Xq (n:=a0.length) (fun i1 hi1=>?_) (fun m hm=>?_) i0
 ·unfold M.QI S.QI
  try simp only [Int.toNat_natCast]
  refine Yz (dt (by omega)) ?_
  refine Xy (KF ((a0.getD i1 default).XG) (Y1.XG (LL.getD ha0 Y1.dflt i1))) (fun r3 her3=>?_)
  refine Jk (Zz (dt (by omega)) (Zz (dt (by omega)) Ym)) ?_
  refine Yr (fun hb2=>?_) (fun hb2=>?_)
  ·exact X9
  ·refine Xy (ZaS a0 i1 ha0 hi1 0) (fun y6 hey6=>?_)
   refine WG (fun _ hl=>?_) (fun y8 hly8=>?_)
   ·refine Jk (Zz (dt (by omega)) (Zz (dt (by omega)) Ym)) ?_
    refine Yr (fun hb4=>?_) (fun hb4=>?_)
    ·exact X9
    ·refine Jk (Zz (dt (by omega)) (Zz (dt (by omega)) Ym)) ?_
     refine Yr (fun hb5=>?_) (fun hb5=>?_)
     ·exact X9
     ·refine Xy (ZaT a0 i1 ha0 hi1 0) (fun y12 hey12=>?_)
      refine WG (fun _ hl=>?_) (fun y14 hly14=>?_)
      ·exact Wi (by omega)
      ·exact X9
   ·exact X9
 ·unfold M.QI
  try simp only [Int.toNat_natCast]
  exact YA (decide_eq_false (by omega)) rfl
noncomputable def S.QP (a0:List Z1):Int :=
 bif decide ((a0.length:Int) > 8) then 7 else (letS (runN (S.QI a0) (.inl ()) 0 a0.length) (fun y15=>Sum.elim (fun _=>0) (fun y17=>y17) y15))
theorem Zdc (a0:List Z1) (ha0:LL Y1 a0):M.QP a0=some (S.QP a0):=by
 have hM:=Zn
 unfold M.QP S.QP
 refine VZ (fun hb1=>?_) (fun hb1=>?_)
 ·rfl
 ·refine Xa (ZaU a0 ha0 0) (fun y15 hey15=>?_)
  refine JA (fun _ hl=>?_) (fun y17 hly17=>?_)
  ·rfl
  ·rfl
noncomputable def S.QZ (a0:Zi) (a1:ByteArray) (i1:Nat):Option (Unit ⊕ Int) :=
 bif strEq ((a0.YV.getD i1 default).XG) a1 then (some (.inr (i1:Int))) else none
theorem ZbO (a0:Zi) (a1:ByteArray) (ha0:Zr a0) (ha1:a1.size≤maxLen) (i0:Nat):loopM (M.QZ a0 a1) (i0:Int)=some (runN (S.QZ a0 a1) (.inl ()) i0 (a0.YV.length - i0)):=by
 have hM:=Zn
 have hni1:a0.YV.length≤maxLen:=(Zr.YV ha0).1
 refine Xq (n:=a0.YV.length) (fun i1 hi1=>?_) (fun m hm=>?_) i0
 ·unfold M.QZ S.QZ
  try simp only [Int.toNat_natCast]
  refine Yz (dt (by omega)) ?_
  refine Jk (Zz (dt (by omega)) (Zz (dt (by omega)) Ym)) ?_
  refine Yr (fun hb1=>?_) (fun hb1=>?_)
  ·exact X9
  ·exact Wi (by omega)
 ·unfold M.QZ
  try simp only [Int.toNat_natCast]
  exact YA (decide_eq_false (by omega)) rfl
noncomputable def S.Qj (a0:Zi) (a1:ByteArray):Int :=
 letS (runN (S.QZ a0 a1) (.inl ()) 0 a0.YV.length) (fun y3=>Sum.elim (fun _=>-1) (fun y5=>y5) y3)
theorem Kd (a0:Zi) (a1:ByteArray) (ha0:Zr a0) (ha1:a1.size≤maxLen):M.Qj a0 a1=some (S.Qj a0 a1):=by
 have hM:=Zn
 unfold M.Qj S.Qj
 refine Xa (ZbO a0 a1 ha0 ha1 0) (fun y3 hey3=>?_)
 refine JA (fun _ hl=>?_) (fun y5 hly5=>?_)
 ·rfl
 ·rfl
noncomputable def S.Jl (a0:Zi) (i1:Nat) (i4:Nat):Option (Unit ⊕ Int) :=
 bif strEq ((a0.XP.getD i4 default).XG) ((a0.XP.getD i1 default).XG) then (some (.inr 4)) else none
theorem Zcl (a0:Zi) (i1:Nat) (ha0:Zr a0) (hi1:i1 < a0.XP.length) (i0:Nat):loopM (M.Jl a0 (i1:Int)) (i0:Int)=some (runN (S.Jl a0 i1) (.inl ()) i0 (i1 - i0)):=by
 have hM:=Zn
 have hni1:a0.XP.length≤maxLen:=(Zr.XP ha0).1
 have hni4:i1≤maxLen:=(by omega)
 refine Xq (n:=i1) (fun i4 hi4=>?_) (fun m hm=>?_) i0
 ·unfold M.Jl S.Jl
  try simp only [Int.toNat_natCast]
  refine Yz (dt (by omega)) ?_
  refine Jk (Zz (dt (by omega)) (Zz (dt (by omega)) (Zz (dt (by omega)) (Zz (dt (by omega)) Ym)))) ?_
  refine Yr (fun hb3=>?_) (fun hb3=>?_)
  ·exact X9
  ·exact Wi (by omega)
 ·unfold M.Jl
  try simp only [Int.toNat_natCast]
  exact YA (decide_eq_false (by omega)) rfl
noncomputable def S.Jm (a0:Zi) (i1:Nat) (i9:Nat):Option (Unit ⊕ Int) :=
 letS (bif (!strEq ((((a0.XP.getD i1 default).Ya).getD i9 default).VO) (⟨#[]⟩:ByteArray)) then S.Qj a0 ((((a0.XP.getD i1 default).Ya).getD i9 default).VO) else default) (fun r11=>bif (!strEq ((((a0.XP.getD i1 default).Ya).getD i9 default).VO) (⟨#[]⟩:ByteArray))&&(decide (r11 < 0)) then (some (.inr 5)) else (letS (S.ZT ((((a0.XP.getD i1 default).Ya).getD i9 default).UP) (-1) 65535) (fun r12=>letS (bif (!(!r12)) then S.ZT ((((a0.XP.getD i1 default).Ya).getD i9 default).ZdN) (-1) 65535 else default) (fun r13=>letS (bif (!((!r12)||(!r13))) then S.ZT ((((a0.XP.getD i1 default).Ya).getD i9 default).K3) (-1) 16777215 else default) (fun r14=>letS (bif (!(((!r12)||(!r13))||(!r14))) then S.ZT ((((a0.XP.getD i1 default).Ya).getD i9 default).Zbk) (-1) 1000000 else default) (fun r15=>letS (bif (!((((!r12)||(!r13))||(!r14))||(!r15))) then S.ZT ((((a0.XP.getD i1 default).Ya).getD i9 default).Zbl) 0 8 else default) (fun r16=>bif ((((!r12)||(!r13))||(!r14))||(!r15))||(!r16) then (some (.inr 1)) else none)))))))
theorem Zcm (a0:Zi) (i1:Nat) (ha0:Zr a0) (hi1:i1 < a0.XP.length) (i0:Nat):loopM (M.Jm a0 (i1:Int)) (i0:Int)=some (runN (S.Jm a0 i1) (.inl ()) i0 (((a0.XP.getD i1 default).Ya).length - i0)):=by
 have hM:=Zn
 have hni1:a0.XP.length≤maxLen:=(Zr.XP ha0).1
 have hni9:((a0.XP.getD i1 default).Ya).length≤maxLen:=(JP.Ya (LL.getD (Zr.XP ha0) JP.dflt i1)).1
 refine Xq (n:=((a0.XP.getD i1 default).Ya).length) (fun i9 hi9=>?_) (fun m hm=>?_) i0
 ·unfold M.Jm S.Jm
  try simp only [Int.toNat_natCast]
  refine Jk (Zz (dt (by omega)) (Zz (dt (by omega)) Ym))  ?_
  refine Yz (dt (by omega)) ?_
  refine Jk (Zz (dt (by omega)) (Zz (dt (by omega)) (Zz (dt (by omega)) (Zz (dt (by omega)) Ym)))) ?_
  refine Xy (Vx fun hg=>(Kd a0 ((((a0.XP.getD i1 default).Ya).getD i9 default).VO) ha0 (Gq.VO (LL.getD (JP.Ya (LL.getD (Zr.XP ha0) JP.dflt i1)) Gq.dflt i9)))) (fun r11 her11=>?_)
  refine Yr (fun hb6=>?_) (fun hb6=>?_)
  ·exact X9
  ·refine Xy (X4 ((((a0.XP.getD i1 default).Ya).getD i9 default).UP) (-1) 65535) (fun r12 her12=>?_)
   refine Xy (Vx fun hg=>(X4 ((((a0.XP.getD i1 default).Ya).getD i9 default).ZdN) (-1) 65535)) (fun r13 her13=>?_)
   refine Xy (Vx fun hg=>(X4 ((((a0.XP.getD i1 default).Ya).getD i9 default).K3) (-1) 16777215)) (fun r14 her14=>?_)
   refine Xy (Vx fun hg=>(X4 ((((a0.XP.getD i1 default).Ya).getD i9 default).Zbk) (-1) 1000000)) (fun r15 her15=>?_)
   refine Xy (Vx fun hg=>(X4 ((((a0.XP.getD i1 default).Ya).getD i9 default).Zbl) 0 8)) (fun r16 her16=>?_)
   refine Yr (fun hb7=>?_) (fun hb7=>?_)
   ·exact X9
   ·exact Wi (by omega)
 ·unfold M.Jm
  try simp only [Int.toNat_natCast]
  refine Jk (Zz (dt (by omega)) (Zz (dt (by omega)) Ym))  ?_
  exact YA (decide_eq_false (by omega)) rfl
noncomputable def S.Jn (a0:Zi) (i1:Nat):Option (Unit ⊕ Int) :=
 letS (S.Jy ((a0.XP.getD i1 default).XG)) (fun r3=>bif !r3 then (some (.inr 3)) else (letS (runN (S.Jl a0 i1) (.inl ()) 0 i1) (fun y6=>Sum.elim (fun _=>bif (((a0.XP.getD i1 default).Ya).length:Int)==0 then (some (.inr 1)) else (bif decide ((((a0.XP.getD i1 default).Ya).length:Int) > 8) then (some (.inr 7)) else (letS (runN (S.Jm a0 i1) (.inl ()) 0 (((a0.XP.getD i1 default).Ya).length)) (fun y17=>Sum.elim (fun _=>none) (fun y19=>some (.inr y19)) y17)))) (fun y8=>some (.inr y8)) y6)))
theorem Zcn (a0:Zi) (ha0:Zr a0) (i0:Nat):loopM (M.Jn a0) (i0:Int)=some (runN (S.Jn a0) (.inl ()) i0 (a0.XP.length - i0)):=by
 have hM:=Zn
 have hni1:a0.XP.length≤maxLen:=(Zr.XP ha0).1
 refine Xq (n:=a0.XP.length) (fun i1 hi1=>?_) (fun m hm=>?_) i0
 ·unfold M.Jn S.Jn
  try simp only [Int.toNat_natCast]
  refine Yz (dt (by omega)) ?_
  refine Xy (KF ((a0.XP.getD i1 default).XG) (JP.XG (LL.getD (Zr.XP ha0) JP.dflt i1))) (fun r3 her3=>?_)
  refine Jk (Zz (dt (by omega)) (Zz (dt (by omega)) Ym)) ?_
  refine Yr (fun hb2=>?_) (fun hb2=>?_)
  ·exact X9
  ·refine Xy (Zcl a0 i1 ha0 hi1 0) (fun y6 hey6=>?_)
   refine WG (fun _ hl=>?_) (fun y8 hly8=>?_)
   ·refine Jk (Zz (dt (by omega)) (Zz (dt (by omega)) Ym)) ?_
    refine Yr (fun hb4=>?_) (fun hb4=>?_)
    ·exact X9
    ·refine Jk (Zz (dt (by omega)) (Zz (dt (by omega)) Ym)) ?_
     refine Yr (fun hb5=>?_) (fun hb5=>?_)
     ·exact X9
     ·refine Xy (Zcm a0 i1 ha0 hi1 0) (fun y17 hey17=>?_)
      refine WG (fun _ hl=>?_) (fun y19 hly19=>?_)
      ·exact Wi (by omega)
      ·exact X9
   ·exact X9
 ·unfold M.Jn
  try simp only [Int.toNat_natCast]
  exact YA (decide_eq_false (by omega)) rfl
noncomputable def S.JB (a0:Zi):Int :=
 bif decide ((a0.XP.length:Int) > 8) then 7 else (letS (runN (S.Jn a0) (.inl ()) 0 a0.XP.length) (fun y20=>Sum.elim (fun _=>0) (fun y22=>y22) y20))
theorem ZeR (a0:Zi) (ha0:Zr a0):M.JB a0=some (S.JB a0):=by
 have hM:=Zn
 unfold M.JB S.JB
 refine VZ (fun hb1=>?_) (fun hb1=>?_)
 ·rfl
 ·refine Xa (Zcn a0 ha0 0) (fun y20 hey20=>?_)
  refine JA (fun _ hl=>?_) (fun y22 hly22=>?_)
  ·rfl
  ·rfl
noncomputable def S.WT (a0:WA):Bool :=
 ((decide (0≤a0.RJ))&&(decide (a0.RJ≤a0.fHi)))&&(decide (a0.fHi≤65535))
theorem Zed (a0:WA) :M.WT a0=some (S.WT a0):=by
 have hM:=Zn
 unfold M.WT S.WT
 rfl
noncomputable def S.Gd (a0:WA):Bool :=
 (a0.RJ==0)&&((a0.fHi==65535)&&true)
theorem ZgN (a0:WA) :M.Gd a0=some (S.Gd a0):=by
 have hM:=Zn
 unfold M.Gd S.Gd
 rfl
noncomputable def S.VP (a0:Zgu):Bool :=
 letS (S.ZT a0.XR (-1) 255) (fun r1=>letS (bif (!(((!r1)||((bitD .and .u32 a0.ZcX.Zm a0.ZcX.KM) != 0))||((bitD .and .u32 a0.ZcY.Zm a0.ZcY.KM) != 0))) then S.WT a0.Gj else default) (fun r2=>letS (bif (!((((!r1)||((bitD .and .u32 a0.ZcX.Zm a0.ZcX.KM) != 0))||((bitD .and .u32 a0.ZcY.Zm a0.ZcY.KM) != 0))||(!r2))) then S.WT a0.Gk else default) (fun r3=>bif ((((!r1)||((bitD .and .u32 a0.ZcX.Zm a0.ZcX.KM) != 0))||((bitD .and .u32 a0.ZcY.Zm a0.ZcY.KM) != 0))||(!r2))||(!r3) then false else (letS (bif (!((a0.XR==6)||(a0.XR==17))) then S.Gd a0.Gj else default) (fun r4=>letS (bif ((!((a0.XR==6)||(a0.XR==17)))&&r4) then S.Gd a0.Gk else default) (fun r5=>((a0.XR==6)||(a0.XR==17))||(r4&&r5)))))))
theorem ZeS (a0:Zgu) :M.VP a0=some (S.VP a0):=by
 have hM:=Zn
 unfold M.VP S.VP
 refine Xa (X4 a0.XR (-1) 255) (fun r1 her1=>?_)
 refine Xa (Vx fun hg=>(Zed a0.Gj)) (fun r2 her2=>?_)
 refine Xa (Vx fun hg=>(Zed a0.Gk)) (fun r3 her3=>?_)
 refine VZ (fun hb1=>?_) (fun hb1=>?_)
 ·rfl
 ·refine Xa (Vx fun hg=>(ZgN a0.Gj)) (fun r4 her4=>?_)
  refine Xa (Vx fun hg=>(ZgN a0.Gk)) (fun r5 her5=>?_)
  rfl
noncomputable def S.QJ (a0:List U6) (i1:Nat) (i4:Nat):Option (Unit ⊕ Int) :=
 bif strEq ((a0.getD i4 default).XG) ((a0.getD i1 default).XG) then (some (.inr 4)) else none
theorem ZaV (a0:List U6) (i1:Nat) (ha0:LL Gi a0) (hi1:i1 < a0.length) (i0:Nat):loopM (M.QJ a0 (i1:Int)) (i0:Int)=some (runN (S.QJ a0 i1) (.inl ()) i0 (i1 - i0)):=by
 have hM:=Zn
 have hni1:a0.length≤maxLen:=ha0.1
 have hni4:i1≤maxLen:=(by omega)
 refine Xq (n:=i1) (fun i4 hi4=>?_) (fun m hm=>?_) i0
 ·unfold M.QJ S.QJ
  try simp only [Int.toNat_natCast]
  refine Yz (dt (by omega)) ?_
  refine Jk (Zz (dt (by omega)) (Zz (dt (by omega)) (Zz (dt (by omega)) (Zz (dt (by omega)) Ym)))) ?_
  refine Yr (fun hb3=>?_) (fun hb3=>?_)
  ·exact X9
  ·exact Wi (by omega)
 ·unfold M.QJ
  try simp only [Int.toNat_natCast]
  exact YA (decide_eq_false (by omega)) rfl
noncomputable def S.QL (a0:List U6) (i1:Nat) (i9:Nat):Option (Unit ⊕ Int) :=
 letS (S.VP (((a0.getD i1 default).Y7).getD i9 default)) (fun r11=>bif !r11 then (some (.inr 1)) else none)
theorem ZaW (a0:List U6) (i1:Nat) (ha0:LL Gi a0) (hi1:i1 < a0.length) (i0:Nat):loopM (M.QL a0 (i1:Int)) (i0:Int)=some (runN (S.QL a0 i1) (.inl ()) i0 (((a0.getD i1 default).Y7).length - i0)):=by
 have hM:=Zn
 have hni1:a0.length≤maxLen:=ha0.1
 have hni9:((a0.getD i1 default).Y7).length≤maxLen:=(Gi.Y7 (LL.getD ha0 Gi.dflt i1))
 refine Xq (n:=((a0.getD i1 default).Y7).length) (fun i9 hi9=>?_) (fun m hm=>?_) i0
 ·unfold M.QL S.QL
  try simp only [Int.toNat_natCast]
  refine Jk (Zz (dt (by omega)) (Zz (dt (by omega)) Ym))  ?_
  refine Yz (dt (by omega)) ?_
  refine Xy (ZeS (((a0.getD i1 default).Y7).getD i9 default)) (fun r11 her11=>?_)
  refine Jk (Zz (dt (by omega)) (Zz (dt (by omega)) (Zz (dt (by omega)) (Zz (dt (by omega)) Ym)))) ?_
  refine Yr (fun hb6=>?_) (fun hb6=>?_)
  ·exact X9
  ·exact Wi (by omega)
 ·unfold M.QL
  try simp only [Int.toNat_natCast]
  refine Jk (Zz (dt (by omega)) (Zz (dt (by omega)) Ym))  ?_
  exact YA (decide_eq_false (by omega)) rfl
noncomputable def S.QM (a0:List U6) (i1:Nat):Option (Unit ⊕ Int) :=
 letS (S.Jy ((a0.getD i1 default).XG)) (fun r3=>bif !r3 then (some (.inr 3)) else (letS (runN (S.QJ a0 i1) (.inl ()) 0 i1) (fun y6=>Sum.elim (fun _=>bif (((a0.getD i1 default).Y7).length:Int)==0 then (some (.inr 1)) else (bif decide ((((a0.getD i1 default).Y7).length:Int) > 16) then (some (.inr 7)) else (letS (runN (S.QL a0 i1) (.inl ()) 0 (((a0.getD i1 default).Y7).length)) (fun y12=>Sum.elim (fun _=>none) (fun y14=>some (.inr y14)) y12)))) (fun y8=>some (.inr y8)) y6)))
theorem ZaX (a0:List U6) (ha0:LL Gi a0) (i0:Nat):loopM (M.QM a0) (i0:Int)=some (runN (S.QM a0) (.inl ()) i0 (a0.length - i0)):=by
 have hM:=Zn
 have hni1:a0.length≤maxLen:=ha0.1
 refine Xq (n:=a0.length) (fun i1 hi1=>?_) (fun m hm=>?_) i0
 ·unfold M.QM S.QM
  try simp only [Int.toNat_natCast]
  refine Yz (dt (by omega)) ?_
  refine Xy (KF ((a0.getD i1 default).XG) (Gi.XG (LL.getD ha0 Gi.dflt i1))) (fun r3 her3=>?_)
  refine Jk (Zz (dt (by omega)) (Zz (dt (by omega)) Ym)) ?_
  refine Yr (fun hb2=>?_) (fun hb2=>?_)
  ·exact X9
  ·refine Xy (ZaV a0 i1 ha0 hi1 0) (fun y6 hey6=>?_)
   refine WG (fun _ hl=>?_) (fun y8 hly8=>?_)
   ·refine Jk (Zz (dt (by omega)) (Zz (dt (by omega)) Ym)) ?_
    refine Yr (fun hb4=>?_) (fun hb4=>?_)
    ·exact X9
    ·refine Jk (Zz (dt (by omega)) (Zz (dt (by omega)) Ym)) ?_
     refine Yr (fun hb5=>?_) (fun hb5=>?_)
     ·exact X9
     ·refine Xy (ZaW a0 i1 ha0 hi1 0) (fun y12 hey12=>?_)
      refine WG (fun _ hl=>?_) (fun y14 hly14=>?_)
      ·exact Wi (by omega)
      ·exact X9
   ·exact X9
 ·unfold M.QM
  try simp only [Int.toNat_natCast]
  exact YA (decide_eq_false (by omega)) rfl
noncomputable def S.QQ (a0:List U6):Int :=
 bif decide ((a0.length:Int) > 8) then 7 else (letS (runN (S.QM a0) (.inl ()) 0 a0.length) (fun y15=>Sum.elim (fun _=>0) (fun y17=>y17) y15))
theorem Zdd (a0:List U6) (ha0:LL Gi a0):M.QQ a0=some (S.QQ a0):=by
 have hM:=Zn
 unfold M.QQ S.QQ
 refine VZ (fun hb1=>?_) (fun hb1=>?_)
 ·rfl
 ·refine Xa (ZaX a0 ha0 0) (fun y15 hey15=>?_)
  refine JA (fun _ hl=>?_) (fun y17 hly17=>?_)
  ·rfl
  ·rfl
noncomputable def S.Ub (a0:Zi) (a1:ByteArray) (i1:Nat):Option (Unit ⊕ Int) :=
 bif strEq ((a0.Y5.getD i1 default).XG) a1 then (some (.inr (i1:Int))) else none
theorem Zhb (a0:Zi) (a1:ByteArray) (ha0:Zr a0) (ha1:a1.size≤maxLen) (i0:Nat):loopM (M.Ub a0 a1) (i0:Int)=some (runN (S.Ub a0 a1) (.inl ()) i0 (a0.Y5.length - i0)):=by
 have hM:=Zn
 have hni1:a0.Y5.length≤maxLen:=(Zr.Y5 ha0).1
 refine Xq (n:=a0.Y5.length) (fun i1 hi1=>?_) (fun m hm=>?_) i0
 ·unfold M.Ub S.Ub
  try simp only [Int.toNat_natCast]
  refine Yz (dt (by omega)) ?_
  refine Jk (Zz (dt (by omega)) (Zz (dt (by omega)) Ym)) ?_
  refine Yr (fun hb1=>?_) (fun hb1=>?_)
  ·exact X9
  ·exact Wi (by omega)
 ·unfold M.Ub
  try simp only [Int.toNat_natCast]
  exact YA (decide_eq_false (by omega)) rfl
noncomputable def S.Ux (a0:Zi) (a1:ByteArray):Int :=
 letS (runN (S.Ub a0 a1) (.inl ()) 0 a0.Y5.length) (fun y3=>Sum.elim (fun _=>-1) (fun y5=>y5) y3)
theorem Zde (a0:Zi) (a1:ByteArray) (ha0:Zr a0) (ha1:a1.size≤maxLen):M.Ux a0 a1=some (S.Ux a0 a1):=by
 have hM:=Zn
 unfold M.Ux S.Ux
 refine Xa (Zhb a0 a1 ha0 ha1 0) (fun y3 hey3=>?_)
 refine JA (fun _ hl=>?_) (fun y5 hly5=>?_)
 ·rfl
 ·rfl
noncomputable def S.X3 (a0:Zi) (i1:Nat) (p3:Bool):Option (Unit ⊕ Int) :=
 bif !p3 then (some (.inr 1)) else (letS (bif (((a0.Xf.getD i1 default).Up)==2) then S.Ux a0 ((a0.Xf.getD i1 default).VO) else default) (fun r4=>bif (((a0.Xf.getD i1 default).Up)==2)&&(decide (r4 < 0)) then (some (.inr 5)) else none))
theorem WL (a0:Zi) (i1:Nat) (p3:Bool) (ha0:Zr a0) (hi1:i1 < a0.Xf.length):M.X3 a0 (i1:Int) p3=some (rdN (S.X3 a0 i1 p3) i1):=by
 have hM:=Zn
 have hni1:a0.Xf.length≤maxLen:=(Zr.Xf ha0).1
 unfold M.X3 S.X3
 try simp only [Int.toNat_natCast]
 refine Yr (fun hb3=>?_) (fun hb3=>?_)
 ·exact X9
 ·refine Xy (Vx fun hg=>(Zde a0 ((a0.Xf.getD i1 default).VO) ha0 (VW.VO (LL.getD (Zr.Xf ha0) VW.dflt i1)))) (fun r4 her4=>?_)
  refine Yr (fun hb4=>?_) (fun hb4=>?_)
  ·exact X9
  ·exact Wi (by omega)
noncomputable def S.Qm (a0:Zi) (i1:Nat):Option (Unit ⊕ Int) :=
 bif ((a0.Xf.getD i1 default).Up)==1 then (S.X3 a0 i1 (((((a0.Xf.getD i1 default).Vi) != 0)&&(((a0.Xf.getD i1 default).Q3) != 0))&&((((a0.Xf.getD i1 default).Up)==((a0.Xf.getD i1 default).Up))&&((((a0.Xf.getD i1 default).Vi)==((a0.Xf.getD i1 default).Vi))&&((((a0.Xf.getD i1 default).Q3)==((a0.Xf.getD i1 default).Q3))&&((((a0.Xf.getD i1 default).XR)==0)&&((((a0.Xf.getD i1 default).VA)==0)&&((((a0.Xf.getD i1 default).JY)==0)&&(strEq ((a0.Xf.getD i1 default).VO) (⟨#[]⟩:ByteArray)&&((((a0.Xf.getD i1 default).RJ)==0)&&((((a0.Xf.getD i1 default).fHi)==0)&&true))))))))))) else (bif ((a0.Xf.getD i1 default).Up)==2 then (S.X3 a0 i1 ((((((a0.Xf.getD i1 default).RJ) != 0)&&(decide (((a0.Xf.getD i1 default).RJ)≤((a0.Xf.getD i1 default).fHi))))&&(decide ((wr .u32 (((a0.Xf.getD i1 default).fHi) - ((a0.Xf.getD i1 default).RJ))) < 8)))&&((((a0.Xf.getD i1 default).Up)==((a0.Xf.getD i1 default).Up))&&((((a0.Xf.getD i1 default).Vi)==0)&&((((a0.Xf.getD i1 default).Q3)==0)&&((((a0.Xf.getD i1 default).XR)==0)&&((((a0.Xf.getD i1 default).VA)==0)&&((((a0.Xf.getD i1 default).JY)==0)&&(strEq ((a0.Xf.getD i1 default).VO) ((a0.Xf.getD i1 default).VO)&&((((a0.Xf.getD i1 default).RJ)==((a0.Xf.getD i1 default).RJ))&&((((a0.Xf.getD i1 default).fHi)==((a0.Xf.getD i1 default).fHi))&&true))))))))))) else (bif ((a0.Xf.getD i1 default).Up)==3 then (letS (bif (((((a0.Xf.getD i1 default).Vi) != 0)&&(((a0.Xf.getD i1 default).Q3) != 0))&&((((a0.Xf.getD i1 default).XR)==6)||(((a0.Xf.getD i1 default).XR)==17))) then S.ZT ((a0.Xf.getD i1 default).VA) 0 65535 else default) (fun r5=>letS (bif ((((((a0.Xf.getD i1 default).Vi) != 0)&&(((a0.Xf.getD i1 default).Q3) != 0))&&((((a0.Xf.getD i1 default).XR)==6)||(((a0.Xf.getD i1 default).XR)==17)))&&r5) then S.ZT ((a0.Xf.getD i1 default).JY) 0 65535 else default) (fun r6=>S.X3 a0 i1 ((((((((((a0.Xf.getD i1 default).Vi) != 0)&&(((a0.Xf.getD i1 default).Q3) != 0))&&((((a0.Xf.getD i1 default).XR)==6)||(((a0.Xf.getD i1 default).XR)==17)))&&r5)&&r6)&&(strEq ((a0.Xf.getD i1 default).VO) (⟨#[]⟩:ByteArray)))&&(((a0.Xf.getD i1 default).RJ)==0))&&(((a0.Xf.getD i1 default).fHi)==0))))) else (S.X3 a0 i1 false)))
theorem Zav (a0:Zi) (ha0:Zr a0) (i0:Nat):loopM (M.Qm a0) (i0:Int)=some (runN (S.Qm a0) (.inl ()) i0 (a0.Xf.length - i0)):=by
 have hM:=Zn
 have hni1:a0.Xf.length≤maxLen:=(Zr.Xf ha0).1
 refine Xq (n:=a0.Xf.length) (fun i1 hi1=>?_) (fun m hm=>?_) i0
 ·unfold M.Qm S.Qm
  try simp only [Int.toNat_natCast]
  refine Yz (dt (by omega)) ?_
  refine Jk (Zz (dt (by omega)) (Zz (dt (by omega)) Ym)) ?_
  refine Yr (fun hb2=>?_) (fun hb2=>?_)
  ·exact WL a0 i1 (((((a0.Xf.getD i1 default).Vi) != 0)&&(((a0.Xf.getD i1 default).Q3) != 0))&&((((a0.Xf.getD i1 default).Up)==((a0.Xf.getD i1 default).Up))&&((((a0.Xf.getD i1 default).Vi)==((a0.Xf.getD i1 default).Vi))&&((((a0.Xf.getD i1 default).Q3)==((a0.Xf.getD i1 default).Q3))&&((((a0.Xf.getD i1 default).XR)==0)&&((((a0.Xf.getD i1 default).VA)==0)&&((((a0.Xf.getD i1 default).JY)==0)&&(strEq ((a0.Xf.getD i1 default).VO) (⟨#[]⟩:ByteArray)&&((((a0.Xf.getD i1 default).RJ)==0)&&((((a0.Xf.getD i1 default).fHi)==0)&&true)))))))))) ha0 hi1
  ·refine Yr (fun hb5=>?_) (fun hb5=>?_)
   ·exact WL a0 i1 ((((((a0.Xf.getD i1 default).RJ) != 0)&&(decide (((a0.Xf.getD i1 default).RJ)≤((a0.Xf.getD i1 default).fHi))))&&(decide ((wr .u32 (((a0.Xf.getD i1 default).fHi) - ((a0.Xf.getD i1 default).RJ))) < 8)))&&((((a0.Xf.getD i1 default).Up)==((a0.Xf.getD i1 default).Up))&&((((a0.Xf.getD i1 default).Vi)==0)&&((((a0.Xf.getD i1 default).Q3)==0)&&((((a0.Xf.getD i1 default).XR)==0)&&((((a0.Xf.getD i1 default).VA)==0)&&((((a0.Xf.getD i1 default).JY)==0)&&(strEq ((a0.Xf.getD i1 default).VO) ((a0.Xf.getD i1 default).VO)&&((((a0.Xf.getD i1 default).RJ)==((a0.Xf.getD i1 default).RJ))&&((((a0.Xf.getD i1 default).fHi)==((a0.Xf.getD i1 default).fHi))&&true)))))))))) ha0 hi1
   ·refine Yr (fun hb6=>?_) (fun hb6=>?_)
    ·refine Xy (Vx fun hg=>(X4 ((a0.Xf.getD i1 default).VA) 0 65535)) (fun r5 her5=>?_)
     refine Xy (Vx fun hg=>(X4 ((a0.Xf.getD i1 default).JY) 0 65535)) (fun r6 her6=>?_)
     exact WL a0 i1 ((((((((((a0.Xf.getD i1 default).Vi) != 0)&&(((a0.Xf.getD i1 default).Q3) != 0))&&((((a0.Xf.getD i1 default).XR)==6)||(((a0.Xf.getD i1 default).XR)==17)))&&r5)&&r6)&&(strEq ((a0.Xf.getD i1 default).VO) (⟨#[]⟩:ByteArray)))&&(((a0.Xf.getD i1 default).RJ)==0))&&(((a0.Xf.getD i1 default).fHi)==0)) ha0 hi1
    ·exact WL a0 i1 false ha0 hi1
 ·unfold M.Qm
  try simp only [Int.toNat_natCast]
  exact YA (decide_eq_false (by omega)) rfl
noncomputable def S.Qn (a0:Zi):Int :=
 bif decide ((a0.Xf.length:Int) > 8) then 7 else (letS (runN (S.Qm a0) (.inl ()) 0 a0.Xf.length) (fun y7=>Sum.elim (fun _=>0) (fun y9=>y9) y7))
theorem Zco (a0:Zi) (ha0:Zr a0):M.Qn a0=some (S.Qn a0):=by
 have hM:=Zn
 unfold M.Qn S.Qn
 refine VZ (fun hb1=>?_) (fun hb1=>?_)
 ·rfl
 ·refine Xa (Zav a0 ha0 0) (fun y7 hey7=>?_)
  refine JA (fun _ hl=>?_) (fun y9 hly9=>?_)
  ·rfl
  ·rfl
noncomputable def S.Vj (a0:Zi) (i1:Nat):Option (Unit ⊕ Int) :=
 letS (bif (!strEq ((a0.Zc.getD i1 default).WH) (⟨#[]⟩:ByteArray)) then S.Ux a0 ((a0.Zc.getD i1 default).WH) else default) (fun r3=>letS (bif ((!((!strEq ((a0.Zc.getD i1 default).WH) (⟨#[]⟩:ByteArray))&&(decide (r3 < 0))))&&(!strEq ((a0.Zc.getD i1 default).Qz) (⟨#[]⟩:ByteArray))) then S.Ux a0 ((a0.Zc.getD i1 default).Qz) else default) (fun r4=>bif ((!strEq ((a0.Zc.getD i1 default).WH) (⟨#[]⟩:ByteArray))&&(decide (r3 < 0)))||((!strEq ((a0.Zc.getD i1 default).Qz) (⟨#[]⟩:ByteArray))&&(decide (r4 < 0))) then (some (.inr 5)) else none))
theorem Zee (a0:Zi) (ha0:Zr a0) (i0:Nat):loopM (M.Vj a0) (i0:Int)=some (runN (S.Vj a0) (.inl ()) i0 (a0.Zc.length - i0)):=by
 have hM:=Zn
 have hni1:a0.Zc.length≤maxLen:=(Zr.Zc ha0).1
 refine Xq (n:=a0.Zc.length) (fun i1 hi1=>?_) (fun m hm=>?_) i0
 ·unfold M.Vj S.Vj
  try simp only [Int.toNat_natCast]
  refine Yz (dt (by omega)) ?_
  refine Jk (Zz (dt (by omega)) (Zz (dt (by omega)) Ym)) ?_
  refine Xy (Vx fun hg=>(Zde a0 ((a0.Zc.getD i1 default).WH) ha0 (YB.WH (LL.getD (Zr.Zc ha0) YB.dflt i1)))) (fun r3 her3=>?_)
  refine Xy (Vx fun hg=>(Zde a0 ((a0.Zc.getD i1 default).Qz) ha0 (YB.Qz (LL.getD (Zr.Zc ha0) YB.dflt i1)))) (fun r4 her4=>?_)
  refine Yr (fun hb1=>?_) (fun hb1=>?_)
  ·exact X9
  ·exact Wi (by omega)
 ·unfold M.Vj
  try simp only [Int.toNat_natCast]
  exact YA (decide_eq_false (by omega)) rfl
noncomputable def S.VQ (a0:Zi):Int :=
 letS (runN (S.Vj a0) (.inl ()) 0 a0.Zc.length) (fun y5=>Sum.elim (fun _=>0) (fun y7=>y7) y5)
theorem ZgO (a0:Zi) (ha0:Zr a0):M.VQ a0=some (S.VQ a0):=by
 have hM:=Zn
 unfold M.VQ S.VQ
 refine Xa (Zee a0 ha0 0) (fun y5 hey5=>?_)
 refine JA (fun _ hl=>?_) (fun y7 hly7=>?_)
 ·rfl
 ·rfl
noncomputable def S.Vk (a0:Zi) (a1:Int) (i1:Nat):Option (Unit ⊕ Int) :=
 bif (((a0.Zc.getD i1 default).ZE) != 0)&&(((a0.Zc.getD i1 default).Zm)==a1) then (some (.inr (i1:Int))) else none
theorem Zef (a0:Zi) (a1:Int) (ha0:Zr a0) (i0:Nat):loopM (M.Vk a0 a1) (i0:Int)=some (runN (S.Vk a0 a1) (.inl ()) i0 (a0.Zc.length - i0)):=by
 have hM:=Zn
 have hni1:a0.Zc.length≤maxLen:=(Zr.Zc ha0).1
 refine Xq (n:=a0.Zc.length) (fun i1 hi1=>?_) (fun m hm=>?_) i0
 ·unfold M.Vk S.Vk
  try simp only [Int.toNat_natCast]
  refine Yz (dt (by omega)) ?_
  refine Jk (Zz (dt (by omega)) (Zz (dt (by omega)) (Zz (X5 fun hg=>(dt (by first | omega | (simp; omega) | (simp at *; omega)))) (Zz (X5 fun hg=>(dt (by first | omega | (simp; omega) | (simp at *; omega)))) Ym)))) ?_
  refine Yr (fun hb1=>?_) (fun hb1=>?_)
  ·exact X9
  ·exact Wi (by omega)
 ·unfold M.Vk
  try simp only [Int.toNat_natCast]
  exact YA (decide_eq_false (by omega)) rfl
noncomputable def S.Vl (a0:Zi) (a1:Int):Int :=
 letS (runN (S.Vk a0 a1) (.inl ()) 0 a0.Zc.length) (fun y3=>Sum.elim (fun _=>-1) (fun y5=>y5) y3)
theorem ZbP (a0:Zi) (a1:Int) (ha0:Zr a0):M.Vl a0 a1=some (S.Vl a0 a1):=by
 have hM:=Zn
 unfold M.Vl S.Vl
 refine Xa (Zef a0 a1 ha0 0) (fun y3 hey3=>?_)
 refine JA (fun _ hl=>?_) (fun y5 hly5=>?_)
 ·rfl
 ·rfl
noncomputable def S.QS (a0:Zi) (a1:ByteArray) (i1:Nat):Option (Unit ⊕ Int) :=
 bif strEq ((a0.Zc.getD i1 default).XG) a1 then (some (.inr (i1:Int))) else none
theorem Zcp (a0:Zi) (a1:ByteArray) (ha0:Zr a0) (ha1:a1.size≤maxLen) (i0:Nat):loopM (M.QS a0 a1) (i0:Int)=some (runN (S.QS a0 a1) (.inl ()) i0 (a0.Zc.length - i0)):=by
 have hM:=Zn
 have hni1:a0.Zc.length≤maxLen:=(Zr.Zc ha0).1
 refine Xq (n:=a0.Zc.length) (fun i1 hi1=>?_) (fun m hm=>?_) i0
 ·unfold M.QS S.QS
  try simp only [Int.toNat_natCast]
  refine Yz (dt (by omega)) ?_
  refine Jk (Zz (dt (by omega)) (Zz (dt (by omega)) Ym)) ?_
  refine Yr (fun hb1=>?_) (fun hb1=>?_)
  ·exact X9
  ·exact Wi (by omega)
 ·unfold M.QS
  try simp only [Int.toNat_natCast]
  exact YA (decide_eq_false (by omega)) rfl
noncomputable def S.JC (a0:Zi) (a1:ByteArray):Int :=
 letS (runN (S.QS a0 a1) (.inl ()) 0 a0.Zc.length) (fun y3=>Sum.elim (fun _=>-1) (fun y5=>y5) y3)
theorem ZeT (a0:Zi) (a1:ByteArray) (ha0:Zr a0) (ha1:a1.size≤maxLen):M.JC a0 a1=some (S.JC a0 a1):=by
 have hM:=Zn
 unfold M.JC S.JC
 refine Xa (Zcp a0 a1 ha0 ha1 0) (fun y3 hey3=>?_)
 refine JA (fun _ hl=>?_) (fun y5 hly5=>?_)
 ·rfl
 ·rfl
theorem Zdf (a0:Zi) (a1:ByteArray):S.JC a0 a1 < (a0.Zc.length:Int):=by
 unfold S.JC
 simp only [letS]
 exact Zok (fun i=>by unfold S.QS; cases strEq (a0.Zc.getD i default).XG a1 <;> simp) _
noncomputable def S.Vm (a0:Zi) (i1:Nat) (i11:Nat):Option (Unit ⊕ Int) :=
 bif (((((a0.Zq.getD i11 default).Zh).Zm)==(((a0.Zq.getD i1 default).Zh).Zm))&&(((((a0.Zq.getD i11 default).Zh).ZE)==(((a0.Zq.getD i1 default).Zh).ZE))&&true))&&(((a0.Zq.getD i11 default).Z5)==((a0.Zq.getD i1 default).Z5)) then (some (.inr 6)) else none
theorem Zeg (a0:Zi) (i1:Nat) (ha0:Zr a0) (hi1:i1 < a0.Zq.length) (i0:Nat):loopM (M.Vm a0 (i1:Int)) (i0:Int)=some (runN (S.Vm a0 i1) (.inl ()) i0 (i1 - i0)):=by
 have hM:=Zn
 have hni1:a0.Zq.length≤maxLen:=(Zr.Zq ha0).1
 have hni11:i1≤maxLen:=(by omega)
 refine Xq (n:=i1) (fun i11 hi11=>?_) (fun m hm=>?_) i0
 ·unfold M.Vm S.Vm
  try simp only [Int.toNat_natCast]
  refine Yz (dt (by omega)) ?_
  refine Jk (Zz (dt (by omega)) (Zz (dt (by omega)) (Zz (X5 fun hg=>(dt (by first | omega | (simp; omega) | (simp at *; omega)))) (Zz (X5 fun hg=>(dt (by first | omega | (simp; omega) | (simp at *; omega)))) Ym)))) ?_
  refine Yr (fun hb9=>?_) (fun hb9=>?_)
  ·exact X9
  ·exact Wi (by omega)
 ·unfold M.Vm
  try simp only [Int.toNat_natCast]
  exact YA (decide_eq_false (by omega)) rfl
noncomputable def S.Q4 (a0:Zi) (i1:Nat) (_p10:Unit):Option (Unit ⊕ Int) :=
 letS (runN (S.Vm a0 i1) (.inl ()) 0 i1) (fun y13=>Sum.elim (fun _=>none) (fun y15=>some (.inr y15)) y13)
theorem Ro (a0:Zi) (i1:Nat) (_p10:Unit) (ha0:Zr a0) (hi1:i1 < a0.Zq.length):M.Q4 a0 (i1:Int) _p10=some (rdN (S.Q4 a0 i1 _p10) i1):=by
 have hM:=Zn
 have hni1:a0.Zq.length≤maxLen:=(Zr.Zq ha0).1
 unfold M.Q4 S.Q4
 try simp only [Int.toNat_natCast]
 refine Xy (Zeg a0 i1 ha0 hi1 0) (fun y13 hey13=>?_)
 refine WG (fun _ hl=>?_) (fun y15 hly15=>?_)
 ·exact Wi (by omega)
 ·exact X9
noncomputable def S.Q5 (a0:Zi) (i1:Nat) (p5:Int):Option (Unit ⊕ Int) :=
 letS (S.Y9 ((a0.Zq.getD i1 default).Zh)) (fun r6=>letS (bif ((!((!r6)||(p5 != 1)))&&(((a0.Zq.getD i1 default).YF) != 0)) then S.Vl a0 ((a0.Zq.getD i1 default).YF) else default) (fun r7=>letS (bif (!(((!r6)||(p5 != 1))||((((a0.Zq.getD i1 default).YF) != 0)&&(decide (r7 ≥ 0))))) then S.ZT ((a0.Zq.getD i1 default).Z5) 1 255 else default) (fun r8=>letS (bif (!((((!r6)||(p5 != 1))||((((a0.Zq.getD i1 default).YF) != 0)&&(decide (r7 ≥ 0))))||(!r8))) then S.ZT ((a0.Zq.getD i1 default).UP) 0 65535 else default) (fun r9=>bif ((((!r6)||(p5 != 1))||((((a0.Zq.getD i1 default).YF) != 0)&&(decide (r7 ≥ 0))))||(!r8))||(!r9) then (some (.inr 1)) else (bif !strEq ((a0.Zq.getD i1 default).ZP) (⟨#[]⟩:ByteArray) then (letS (S.JC a0 ((a0.Zq.getD i1 default).ZP)) (fun r16=>bif decide (r16 < 0) then (some (.inr 5)) else (bif ((a0.Zc.getD r16.toNat default).ZE)==0 then (some (.inr 1)) else (S.Q4 a0 i1 ())))) else (S.Q4 a0 i1 ()))))))
theorem Rp (a0:Zi) (i1:Nat) (p5:Int) (ha0:Zr a0) (hi1:i1 < a0.Zq.length):M.Q5 a0 (i1:Int) p5=some (rdN (S.Q5 a0 i1 p5) i1):=by
 have hM:=Zn
 have hni1:a0.Zq.length≤maxLen:=(Zr.Zq ha0).1
 unfold M.Q5 S.Q5
 try simp only [Int.toNat_natCast]
 refine Xy (Uj ((a0.Zq.getD i1 default).Zh)) (fun r6 her6=>?_)
 refine Xy (Vx fun hg=>(ZbP a0 ((a0.Zq.getD i1 default).YF) ha0)) (fun r7 her7=>?_)
 refine Xy (Vx fun hg=>(X4 ((a0.Zq.getD i1 default).Z5) 1 255)) (fun r8 her8=>?_)
 refine Xy (Vx fun hg=>(X4 ((a0.Zq.getD i1 default).UP) 0 65535)) (fun r9 her9=>?_)
 refine Yr (fun hb5=>?_) (fun hb5=>?_)
 ·exact X9
 ·refine Yr (fun hb6=>?_) (fun hb6=>?_)
  ·refine Xy (ZeT a0 ((a0.Zq.getD i1 default).ZP) ha0 (VX.ZP (LL.getD (Zr.Zq ha0) VX.dflt i1))) (fun r16 her16=>?_)
   have hrr16:=Zdf a0 ((a0.Zq.getD i1 default).ZP)
   refine Yr (fun hb7=>?_) (fun hb7=>?_)
   ·exact X9
   ·refine Jk (Zz (dt (by first | omega | (simp; omega) | (simp at *; omega))) (Zz (dt (by first | omega | (simp; omega) | (simp at *; omega))) Ym)) ?_
    refine Yr (fun hb8=>?_) (fun hb8=>?_)
    ·exact X9
    ·exact Ro a0 i1 () ha0 hi1
  ·exact Ro a0 i1 () ha0 hi1
noncomputable def S.Q6 (a0:Zi) (i1:Nat) (p4:Int):Option (Unit ⊕ Int) :=
 bif (a0.Zq.getD i1 default).ZS then (S.Q5 a0 i1 (wr .i64 (p4+1))) else (S.Q5 a0 i1 p4)
theorem Rq (a0:Zi) (i1:Nat) (p4:Int) (ha0:Zr a0) (hi1:i1 < a0.Zq.length):M.Q6 a0 (i1:Int) p4=some (rdN (S.Q6 a0 i1 p4) i1):=by
 have hM:=Zn
 have hni1:a0.Zq.length≤maxLen:=(Zr.Zq ha0).1
 unfold M.Q6 S.Q6
 try simp only [Int.toNat_natCast]
 refine Yr (fun hb4=>?_) (fun hb4=>?_)
 ·exact Rp a0 i1 (wr .i64 (p4+1)) ha0 hi1
 ·exact Rp a0 i1 p4 ha0 hi1
noncomputable def S.Q7 (a0:Zi) (i1:Nat) (p3:Int):Option (Unit ⊕ Int) :=
 bif !strEq ((a0.Zq.getD i1 default).ZP) (⟨#[]⟩:ByteArray) then (S.Q6 a0 i1 (wr .i64 (p3+1))) else (S.Q6 a0 i1 p3)
theorem Rr (a0:Zi) (i1:Nat) (p3:Int) (ha0:Zr a0) (hi1:i1 < a0.Zq.length):M.Q7 a0 (i1:Int) p3=some (rdN (S.Q7 a0 i1 p3) i1):=by
 have hM:=Zn
 have hni1:a0.Zq.length≤maxLen:=(Zr.Zq ha0).1
 unfold M.Q7 S.Q7
 try simp only [Int.toNat_natCast]
 refine Yr (fun hb3=>?_) (fun hb3=>?_)
 ·exact Rq a0 i1 (wr .i64 (p3+1)) ha0 hi1
 ·exact Rq a0 i1 p3 ha0 hi1
noncomputable def S.Vn (a0:Zi) (i1:Nat):Option (Unit ⊕ Int) :=
 bif ((a0.Zq.getD i1 default).YF) != 0 then (S.Q7 a0 i1 1) else (S.Q7 a0 i1 0)
theorem Zeh (a0:Zi) (ha0:Zr a0) (i0:Nat):loopM (M.Vn a0) (i0:Int)=some (runN (S.Vn a0) (.inl ()) i0 (a0.Zq.length - i0)):=by
 have hM:=Zn
 have hni1:a0.Zq.length≤maxLen:=(Zr.Zq ha0).1
 refine Xq (n:=a0.Zq.length) (fun i1 hi1=>?_) (fun m hm=>?_) i0
 ·unfold M.Vn S.Vn
  try simp only [Int.toNat_natCast]
  refine Yz (dt (by omega)) ?_
  refine Jk (Zz (dt (by omega)) (Zz (dt (by omega)) Ym)) ?_
  refine Yr (fun hb2=>?_) (fun hb2=>?_)
  ·exact Rr a0 i1 1 ha0 hi1
  ·exact Rr a0 i1 0 ha0 hi1
 ·unfold M.Vn
  try simp only [Int.toNat_natCast]
  exact YA (decide_eq_false (by omega)) rfl
noncomputable def S.VR (a0:Zi):Int :=
 bif decide ((a0.Zq.length:Int) > 16) then 7 else (letS (runN (S.Vn a0) (.inl ()) 0 a0.Zq.length) (fun y17=>Sum.elim (fun _=>0) (fun y19=>y19) y17))
theorem ZgP (a0:Zi) (ha0:Zr a0):M.VR a0=some (S.VR a0):=by
 have hM:=Zn
 unfold M.VR S.VR
 refine VZ (fun hb1=>?_) (fun hb1=>?_)
 ·rfl
 ·refine Xa (Zeh a0 ha0 0) (fun y17 hey17=>?_)
  refine JA (fun _ hl=>?_) (fun y19 hly19=>?_)
  ·rfl
  ·rfl
noncomputable def S.J2 (a0:Zi) (a1:ByteArray) (i1:Nat):Option (Unit ⊕ Int) :=
 bif strEq ((a0.XP.getD i1 default).XG) a1 then (some (.inr (i1:Int))) else none
theorem Zdg (a0:Zi) (a1:ByteArray) (ha0:Zr a0) (ha1:a1.size≤maxLen) (i0:Nat):loopM (M.J2 a0 a1) (i0:Int)=some (runN (S.J2 a0 a1) (.inl ()) i0 (a0.XP.length - i0)):=by
 have hM:=Zn
 have hni1:a0.XP.length≤maxLen:=(Zr.XP ha0).1
 refine Xq (n:=a0.XP.length) (fun i1 hi1=>?_) (fun m hm=>?_) i0
 ·unfold M.J2 S.J2
  try simp only [Int.toNat_natCast]
  refine Yz (dt (by omega)) ?_
  refine Jk (Zz (dt (by omega)) (Zz (dt (by omega)) Ym)) ?_
  refine Yr (fun hb1=>?_) (fun hb1=>?_)
  ·exact X9
  ·exact Wi (by omega)
 ·unfold M.J2
  try simp only [Int.toNat_natCast]
  exact YA (decide_eq_false (by omega)) rfl
noncomputable def S.Jg (a0:Zi) (a1:ByteArray):Int :=
 letS (runN (S.J2 a0 a1) (.inl ()) 0 a0.XP.length) (fun y3=>Sum.elim (fun _=>-1) (fun y5=>y5) y3)
theorem KL (a0:Zi) (a1:ByteArray) (ha0:Zr a0) (ha1:a1.size≤maxLen):M.Jg a0 a1=some (S.Jg a0 a1):=by
 have hM:=Zn
 unfold M.Jg S.Jg
 refine Xa (Zdg a0 a1 ha0 ha1 0) (fun y3 hey3=>?_)
 refine JA (fun _ hl=>?_) (fun y5 hly5=>?_)
 ·rfl
 ·rfl
noncomputable def S.YH (a1:List QB) (i1:Nat) (i7:Nat):Option (Unit ⊕ Int) :=
 bif ((a1.getD i7 default).W3)==((a1.getD i1 default).W3) then (some (.inr 4)) else none
theorem Rg (a1:List QB) (i1:Nat) (ha1:LL VY a1) (hi1:i1 < a1.length) (i0:Nat):loopM (M.YH a1 (i1:Int)) (i0:Int)=some (runN (S.YH a1 i1) (.inl ()) i0 (i1 - i0)):=by
 have hM:=Zn
 have hni1:a1.length≤maxLen:=ha1.1
 have hni7:i1≤maxLen:=(by omega)
 refine Xq (n:=i1) (fun i7 hi7=>?_) (fun m hm=>?_) i0
 ·unfold M.YH S.YH
  try simp only [Int.toNat_natCast]
  refine Yz (dt (by omega)) ?_
  refine Jk (Zz (dt (by omega)) (Zz (dt (by omega)) Ym)) ?_
  refine Yr (fun hb5=>?_) (fun hb5=>?_)
  ·exact X9
  ·exact Wi (by omega)
 ·unfold M.YH
  try simp only [Int.toNat_natCast]
  exact YA (decide_eq_false (by omega)) rfl
noncomputable def S.YI (a0:Zi) (a1:List QB) (a2:Int) (a3:Int) (a4:Int) (i1:Nat):Option (Unit ⊕ Int) :=
 letS (S.ZT ((a1.getD i1 default).W3) 1 5) (fun r3=>letS (bif (!((!r3)||(((a1.getD i1 default).W3)==a2))) then S.ZT ((a1.getD i1 default).Qk) a3 a4 else default) (fun r4=>letS (bif (!(((!r3)||(((a1.getD i1 default).W3)==a2))||(!r4))) then S.ZT ((a1.getD i1 default).UP) 0 65535 else default) (fun r5=>bif (((!r3)||(((a1.getD i1 default).W3)==a2))||(!r4))||(!r5) then (some (.inr 1)) else (bif (((a2==3)&&(((a1.getD i1 default).Ze8) != 1))&&(((a1.getD i1 default).Ze8) != 2))||((a2 != 3)&&(((a1.getD i1 default).Ze8) != 0)) then (some (.inr 1)) else (letS (bif (!strEq ((a1.getD i1 default).Zex) (⟨#[]⟩:ByteArray)) then S.Jg a0 ((a1.getD i1 default).Zex) else default) (fun r6=>bif (!strEq ((a1.getD i1 default).Zex) (⟨#[]⟩:ByteArray))&&(decide (r6 < 0)) then (some (.inr 5)) else (letS (runN (S.YH a1 i1) (.inl ()) 0 i1) (fun y9=>Sum.elim (fun _=>none) (fun y11=>some (.inr y11)) y9))))))))
theorem Rh (a0:Zi) (a1:List QB) (a2:Int) (a3:Int) (a4:Int) (ha0:Zr a0) (ha1:LL VY a1) (i0:Nat):loopM (M.YI a0 a1 a2 a3 a4) (i0:Int)=some (runN (S.YI a0 a1 a2 a3 a4) (.inl ()) i0 (a1.length - i0)):=by
 have hM:=Zn
 have hni1:a1.length≤maxLen:=ha1.1
 refine Xq (n:=a1.length) (fun i1 hi1=>?_) (fun m hm=>?_) i0
 ·unfold M.YI S.YI
  try simp only [Int.toNat_natCast]
  refine Yz (dt (by omega)) ?_
  refine Jk (Zz (dt (by omega)) (Zz (dt (by omega)) Ym)) ?_
  refine Xy (X4 ((a1.getD i1 default).W3) 1 5) (fun r3 her3=>?_)
  refine Xy (Vx fun hg=>(X4 ((a1.getD i1 default).Qk) a3 a4)) (fun r4 her4=>?_)
  refine Xy (Vx fun hg=>(X4 ((a1.getD i1 default).UP) 0 65535)) (fun r5 her5=>?_)
  refine Yr (fun hb2=>?_) (fun hb2=>?_)
  ·exact X9
  ·refine Yr (fun hb3=>?_) (fun hb3=>?_)
   ·exact X9
   ·refine Xy (Vx fun hg=>(KL a0 ((a1.getD i1 default).Zex) ha0 (VY.Zex (LL.getD ha1 VY.dflt i1)))) (fun r6 her6=>?_)
    refine Yr (fun hb4=>?_) (fun hb4=>?_)
    ·exact X9
    ·refine Xy (Rg a1 i1 ha1 hi1 0) (fun y9 hey9=>?_)
     refine WG (fun _ hl=>?_) (fun y11 hly11=>?_)
     ·exact Wi (by omega)
     ·exact X9
 ·unfold M.YI
  try simp only [Int.toNat_natCast]
  exact YA (decide_eq_false (by omega)) rfl
noncomputable def S.Yk (a0:Zi) (a1:List QB) (a2:Int) (a3:Int) (a4:Int):Int :=
 bif decide ((a1.length:Int) > 4) then 7 else (letS (runN (S.YI a0 a1 a2 a3 a4) (.inl ()) 0 a1.length) (fun y12=>Sum.elim (fun _=>0) (fun y14=>y14) y12))
theorem U1 (a0:Zi) (a1:List QB) (a2:Int) (a3:Int) (a4:Int) (ha0:Zr a0) (ha1:LL VY a1):M.Yk a0 a1 a2 a3 a4=some (S.Yk a0 a1 a2 a3 a4):=by
 have hM:=Zn
 unfold M.Yk S.Yk
 refine VZ (fun hb1=>?_) (fun hb1=>?_)
 ·rfl
 ·refine Xa (Rh a0 a1 a2 a3 a4 ha0 ha1 0) (fun y12 hey12=>?_)
  refine JA (fun _ hl=>?_) (fun y14 hly14=>?_)
  ·rfl
  ·rfl
noncomputable def S.Jo (a0:Zi) (i2:Nat) (i6:Nat):Option (Unit ⊕ Int) :=
 letS (bif (((a0.YC.Z6.getD i6 default).WS)==((a0.YC.Z6.getD i2 default).WS)) then S.QR ((a0.YC.Z6.getD i6 default).Zh) ((a0.YC.Z6.getD i2 default).Zh) else default) (fun r8=>bif (((a0.YC.Z6.getD i6 default).WS)==((a0.YC.Z6.getD i2 default).WS))&&r8 then (some (.inr 6)) else none)
theorem Zcq (a0:Zi) (i2:Nat) (ha0:Zr a0) (hi2:i2 < a0.YC.Z6.length) (i0:Nat):loopM (M.Jo a0 (i2:Int)) (i0:Int)=some (runN (S.Jo a0 i2) (.inl ()) i0 (i2 - i0)):=by
 have hM:=Zn
 have hni2:a0.YC.Z6.length≤maxLen:=(J7.Z6 (Zr.YC ha0))
 have hni6:i2≤maxLen:=(by omega)
 refine Xq (n:=i2) (fun i6 hi6=>?_) (fun m hm=>?_) i0
 ·unfold M.Jo S.Jo
  try simp only [Int.toNat_natCast]
  refine Yz (dt (by omega)) ?_
  refine Xy (Vx fun hg=>(ZaL ((a0.YC.Z6.getD i6 default).Zh) ((a0.YC.Z6.getD i2 default).Zh))) (fun r8 her8=>?_)
  refine Jk (Zz (dt (by omega)) (Zz (dt (by omega)) (Zz (dt (by omega)) (Zz (dt (by omega)) (Zz (X5 fun hg=>(dt (by first | omega | (simp; omega) | (simp at *; omega)))) (Zz (X5 fun hg=>(dt (by first | omega | (simp; omega) | (simp at *; omega)))) (Zz (X5 fun hg=>(dt (by first | omega | (simp; omega) | (simp at *; omega)))) (Zz (X5 fun hg=>(dt (by first | omega | (simp; omega) | (simp at *; omega)))) Ym)))))))) ?_
  refine Yr (fun hb6=>?_) (fun hb6=>?_)
  ·exact X9
  ·exact Wi (by omega)
 ·unfold M.Jo
  try simp only [Int.toNat_natCast]
  exact YA (decide_eq_false (by omega)) rfl
noncomputable def S.Jp (a0:Zi) (i2:Nat):Option (Unit ⊕ Int) :=
 letS (S.ZT ((a0.YC.Z6.getD i2 default).WS) 0 255) (fun r4=>letS (bif (!(!r4)) then S.Y9 ((a0.YC.Z6.getD i2 default).Zh) else default) (fun r5=>bif (!r4)||(!r5) then (some (.inr 1)) else (letS (runN (S.Jo a0 i2) (.inl ()) 0 i2) (fun y9=>Sum.elim (fun _=>none) (fun y11=>some (.inr y11)) y9))))
theorem Zcr (a0:Zi) (ha0:Zr a0) (i0:Nat):loopM (M.Jp a0) (i0:Int)=some (runN (S.Jp a0) (.inl ()) i0 (a0.YC.Z6.length - i0)):=by
 have hM:=Zn
 have hni2:a0.YC.Z6.length≤maxLen:=(J7.Z6 (Zr.YC ha0))
 refine Xq (n:=a0.YC.Z6.length) (fun i2 hi2=>?_) (fun m hm=>?_) i0
 ·unfold M.Jp S.Jp
  try simp only [Int.toNat_natCast]
  refine Yz (dt (by omega)) ?_
  refine Xy (X4 ((a0.YC.Z6.getD i2 default).WS) 0 255) (fun r4 her4=>?_)
  refine Xy (Vx fun hg=>(Uj ((a0.YC.Z6.getD i2 default).Zh))) (fun r5 her5=>?_)
  refine Jk (Zz (dt (by omega)) (Zz (dt (by omega)) (Zz (X5 fun hg=>(dt (by first | omega | (simp; omega) | (simp at *; omega)))) (Zz (X5 fun hg=>(dt (by first | omega | (simp; omega) | (simp at *; omega)))) Ym)))) ?_
  refine Yr (fun hb5=>?_) (fun hb5=>?_)
  ·exact X9
  ·refine Xy (Zcq a0 i2 ha0 hi2 0) (fun y9 hey9=>?_)
   refine WG (fun _ hl=>?_) (fun y11 hly11=>?_)
   ·exact Wi (by omega)
   ·exact X9
 ·unfold M.Jp
  try simp only [Int.toNat_natCast]
  exact YA (decide_eq_false (by omega)) rfl
noncomputable def S.JD (a0:Zi):Int :=
 bif !a0.YC.Wr then (bif ((a0.YC.Z5 != 0)||(decide ((a0.YC.Z6.length:Int) > 0)))||(decide ((a0.YC.Zu.length:Int) > 0)) then 1 else 0) else (letS (S.ZT a0.YC.Z5 1 255) (fun r1=>bif !r1 then 1 else (bif decide ((a0.YC.Z6.length:Int) > 4) then 7 else (letS (runN (S.Jp a0) (.inl ()) 0 a0.YC.Z6.length) (fun y12=>Sum.elim (fun _=>letS (S.Yk a0 a0.YC.Zu 3 0 16777215) (fun r15=>r15)) (fun y14=>y14) y12)))))
theorem ZeU (a0:Zi) (ha0:Zr a0):M.JD a0=some (S.JD a0):=by
 have hM:=Zn
 unfold M.JD S.JD
 refine VZ (fun hb1=>?_) (fun hb1=>?_)
 ·refine VZ (fun hb2=>?_) (fun hb2=>?_)
  ·rfl
  ·rfl
 ·refine Xa (X4 a0.YC.Z5 1 255) (fun r1 her1=>?_)
  refine VZ (fun hb3=>?_) (fun hb3=>?_)
  ·rfl
  ·refine VZ (fun hb4=>?_) (fun hb4=>?_)
   ·rfl
   ·refine Xa (Zcr a0 ha0 0) (fun y12 hey12=>?_)
    refine JA (fun _ hl=>?_) (fun y14 hly14=>?_)
    ·refine Xa (U1 a0 a0.YC.Zu 3 0 16777215 ha0 (J7.Zu (Zr.YC ha0))) (fun r15 her15=>?_)
     rfl
    ·rfl
noncomputable def S.Vb (a0:Zi):Int :=
 bif !a0.YK.Wr then (bif (((a0.YK.Z5 != 0)||(!strEq a0.YK.WH (⟨#[]⟩:ByteArray)))||(!strEq a0.YK.Qz (⟨#[]⟩:ByteArray)))||(decide ((a0.YK.Zu.length:Int) > 0)) then 1 else 0) else (letS (S.ZT a0.YK.Z5 1 255) (fun r1=>bif !r1 then 1 else (letS (bif (!strEq a0.YK.WH (⟨#[]⟩:ByteArray)) then S.Qj a0 a0.YK.WH else default) (fun r2=>letS (bif ((!((!strEq a0.YK.WH (⟨#[]⟩:ByteArray))&&(decide (r2 < 0))))&&(!strEq a0.YK.Qz (⟨#[]⟩:ByteArray))) then S.Qj a0 a0.YK.Qz else default) (fun r3=>bif ((!strEq a0.YK.WH (⟨#[]⟩:ByteArray))&&(decide (r2 < 0)))||((!strEq a0.YK.Qz (⟨#[]⟩:ByteArray))&&(decide (r3 < 0))) then 5 else (letS (S.Yk a0 a0.YK.Zu 4 1 15) (fun r4=>r4)))))))
theorem Zfy (a0:Zi) (ha0:Zr a0):M.Vb a0=some (S.Vb a0):=by
 have hM:=Zn
 unfold M.Vb S.Vb
 refine VZ (fun hb1=>?_) (fun hb1=>?_)
 ·refine VZ (fun hb2=>?_) (fun hb2=>?_)
  ·rfl
  ·rfl
 ·refine Xa (X4 a0.YK.Z5 1 255) (fun r1 her1=>?_)
  refine VZ (fun hb3=>?_) (fun hb3=>?_)
  ·rfl
  ·refine Xa (Vx fun hg=>(Kd a0 a0.YK.WH ha0 (Yq.WH (Zr.YK ha0)))) (fun r2 her2=>?_)
   refine Xa (Vx fun hg=>(Kd a0 a0.YK.Qz ha0 (Yq.Qz (Zr.YK ha0)))) (fun r3 her3=>?_)
   refine VZ (fun hb4=>?_) (fun hb4=>?_)
   ·rfl
   ·refine Xa (U1 a0 a0.YK.Zu 4 1 15 ha0 (Yq.Zu (Zr.YK ha0))) (fun r4 her4=>?_)
    rfl
noncomputable def S.Jq (a0:Zi) (i1:Nat) (i6:Nat):Option (Unit ⊕ Int) :=
 bif ((a0.Xz.Zp.getD i6 default).Zm)==((a0.Xz.Zp.getD i1 default).Zm) then (some (.inr 4)) else none
theorem Zcs (a0:Zi) (i1:Nat) (ha0:Zr a0) (hi1:i1 < a0.Xz.Zp.length) (i0:Nat):loopM (M.Jq a0 (i1:Int)) (i0:Int)=some (runN (S.Jq a0 i1) (.inl ()) i0 (i1 - i0)):=by
 have hM:=Zn
 have hni1:a0.Xz.Zp.length≤maxLen:=(Xr.Zp (Zr.Xz ha0)).1
 have hni6:i1≤maxLen:=(by omega)
 refine Xq (n:=i1) (fun i6 hi6=>?_) (fun m hm=>?_) i0
 ·unfold M.Jq S.Jq
  try simp only [Int.toNat_natCast]
  refine Yz (dt (by omega)) ?_
  refine Jk (Zz (dt (by omega)) (Zz (dt (by omega)) (Zz (dt (by omega)) (Zz (dt (by omega)) Ym)))) ?_
  refine Yr (fun hb4=>?_) (fun hb4=>?_)
  ·exact X9
  ·exact Wi (by omega)
 ·unfold M.Jq
  try simp only [Int.toNat_natCast]
  exact YA (decide_eq_false (by omega)) rfl
noncomputable def S.Jr (a0:Zi) (i1:Nat):Option (Unit ⊕ Int) :=
 letS (bif (!(((a0.Xz.Zp.getD i1 default).Zm)==0)) then S.ZT ((a0.Xz.Zp.getD i1 default).KQ) 1 65535 else default) (fun r3=>bif (((a0.Xz.Zp.getD i1 default).Zm)==0)||(!r3) then (some (.inr 1)) else (letS (bif (!strEq ((a0.Xz.Zp.getD i1 default).WH) (⟨#[]⟩:ByteArray)) then S.Jg a0 ((a0.Xz.Zp.getD i1 default).WH) else default) (fun r4=>letS (bif ((!((!strEq ((a0.Xz.Zp.getD i1 default).WH) (⟨#[]⟩:ByteArray))&&(decide (r4 < 0))))&&(!strEq ((a0.Xz.Zp.getD i1 default).Qz) (⟨#[]⟩:ByteArray))) then S.Jg a0 ((a0.Xz.Zp.getD i1 default).Qz) else default) (fun r5=>bif ((!strEq ((a0.Xz.Zp.getD i1 default).WH) (⟨#[]⟩:ByteArray))&&(decide (r4 < 0)))||((!strEq ((a0.Xz.Zp.getD i1 default).Qz) (⟨#[]⟩:ByteArray))&&(decide (r5 < 0))) then (some (.inr 5)) else (letS (runN (S.Jq a0 i1) (.inl ()) 0 i1) (fun y8=>Sum.elim (fun _=>none) (fun y10=>some (.inr y10)) y8))))))
theorem Zct (a0:Zi) (ha0:Zr a0) (i0:Nat):loopM (M.Jr a0) (i0:Int)=some (runN (S.Jr a0) (.inl ()) i0 (a0.Xz.Zp.length - i0)):=by
 have hM:=Zn
 have hni1:a0.Xz.Zp.length≤maxLen:=(Xr.Zp (Zr.Xz ha0)).1
 refine Xq (n:=a0.Xz.Zp.length) (fun i1 hi1=>?_) (fun m hm=>?_) i0
 ·unfold M.Jr S.Jr
  try simp only [Int.toNat_natCast]
  refine Yz (dt (by omega)) ?_
  refine Xy (Vx fun hg=>(X4 ((a0.Xz.Zp.getD i1 default).KQ) 1 65535)) (fun r3 her3=>?_)
  refine Jk (Zz (dt (by omega)) (Zz (dt (by omega)) (Zz (X5 fun hg=>(dt (by first | omega | (simp; omega) | (simp at *; omega)))) (Zz (X5 fun hg=>(dt (by first | omega | (simp; omega) | (simp at *; omega)))) Ym)))) ?_
  refine Yr (fun hb2=>?_) (fun hb2=>?_)
  ·exact X9
  ·refine Xy (Vx fun hg=>(KL a0 ((a0.Xz.Zp.getD i1 default).WH) ha0 (VH.WH (LL.getD (Xr.Zp (Zr.Xz ha0)) VH.dflt i1)))) (fun r4 her4=>?_)
   refine Xy (Vx fun hg=>(KL a0 ((a0.Xz.Zp.getD i1 default).Qz) ha0 (VH.Qz (LL.getD (Xr.Zp (Zr.Xz ha0)) VH.dflt i1)))) (fun r5 her5=>?_)
   refine Jk (Zz (dt (by omega)) (Zz (dt (by omega)) (Zz (X5 fun hg=>(dt (by first | omega | (simp; omega) | (simp at *; omega)))) (Zz (X5 fun hg=>(dt (by first | omega | (simp; omega) | (simp at *; omega)))) (Zz (X5 fun hg=>(dt (by first | omega | (simp; omega) | (simp at *; omega)))) (Zz (X5 fun hg=>(dt (by first | omega | (simp; omega) | (simp at *; omega)))) (Zz (X5 fun hg=>(dt (by first | omega | (simp; omega) | (simp at *; omega)))) (Zz (X5 fun hg=>(dt (by first | omega | (simp; omega) | (simp at *; omega)))) Ym)))))))) ?_
   refine Yr (fun hb3=>?_) (fun hb3=>?_)
   ·exact X9
   ·refine Xy (Zcs a0 i1 ha0 hi1 0) (fun y8 hey8=>?_)
    refine WG (fun _ hl=>?_) (fun y10 hly10=>?_)
    ·exact Wi (by omega)
    ·exact X9
 ·unfold M.Jr
  try simp only [Int.toNat_natCast]
  exact YA (decide_eq_false (by omega)) rfl
noncomputable def S.VS (a0:Zi):Int :=
 bif decide ((a0.Xz.Zp.length:Int) > 8) then 7 else (letS (runN (S.Jr a0) (.inl ()) 0 a0.Xz.Zp.length) (fun y11=>Sum.elim (fun _=>0) (fun y13=>y13) y11))
theorem ZeV (a0:Zi) (ha0:Zr a0):M.VS a0=some (S.VS a0):=by
 have hM:=Zn
 unfold M.VS S.VS
 refine VZ (fun hb1=>?_) (fun hb1=>?_)
 ·rfl
 ·refine Xa (Zct a0 ha0 0) (fun y11 hey11=>?_)
  refine JA (fun _ hl=>?_) (fun y13 hly13=>?_)
  ·rfl
  ·rfl
noncomputable def S.Qo (a0:XO) (i1:Nat) (i4:Nat):Option (Unit ⊕ Int) :=
 bif ((((a0.ZY.getD i4 default).Zm)==((a0.ZY.getD i1 default).Zm))&&((((a0.ZY.getD i4 default).ZE)==((a0.ZY.getD i1 default).ZE))&&true)) then (some (.inr 4)) else none
theorem Zaw (a0:XO) (i1:Nat) (ha0:Xr a0) (hi1:i1 < a0.ZY.length) (i0:Nat):loopM (M.Qo a0 (i1:Int)) (i0:Int)=some (runN (S.Qo a0 i1) (.inl ()) i0 (i1 - i0)):=by
 have hM:=Zn
 have hni1:a0.ZY.length≤maxLen:=(Xr.ZY ha0)
 have hni4:i1≤maxLen:=(by omega)
 refine Xq (n:=i1) (fun i4 hi4=>?_) (fun m hm=>?_) i0
 ·unfold M.Qo S.Qo
  try simp only [Int.toNat_natCast]
  refine Yz (dt (by omega)) ?_
  refine Jk (Zz (dt (by omega)) (Zz (dt (by omega)) (Zz (dt (by omega)) (Zz (dt (by omega)) Ym)))) ?_
  refine Yr (fun hb3=>?_) (fun hb3=>?_)
  ·exact X9
  ·exact Wi (by omega)
 ·unfold M.Qo
  try simp only [Int.toNat_natCast]
  exact YA (decide_eq_false (by omega)) rfl
noncomputable def S.Qp (a0:XO) (i1:Nat):Option (Unit ⊕ Int) :=
 letS (S.Y9 (a0.ZY.getD i1 default)) (fun r3=>bif !r3 then (some (.inr 1)) else (letS (runN (S.Qo a0 i1) (.inl ()) 0 i1) (fun y6=>Sum.elim (fun _=>none) (fun y8=>some (.inr y8)) y6)))
theorem Zax (a0:XO) (ha0:Xr a0) (i0:Nat):loopM (M.Qp a0) (i0:Int)=some (runN (S.Qp a0) (.inl ()) i0 (a0.ZY.length - i0)):=by
 have hM:=Zn
 have hni1:a0.ZY.length≤maxLen:=(Xr.ZY ha0)
 refine Xq (n:=a0.ZY.length) (fun i1 hi1=>?_) (fun m hm=>?_) i0
 ·unfold M.Qp S.Qp
  try simp only [Int.toNat_natCast]
  refine Yz (dt (by omega)) ?_
  refine Xy (Uj (a0.ZY.getD i1 default)) (fun r3 her3=>?_)
  refine Jk (Zz (dt (by omega)) (Zz (dt (by omega)) Ym)) ?_
  refine Yr (fun hb2=>?_) (fun hb2=>?_)
  ·exact X9
  ·refine Xy (Zaw a0 i1 ha0 hi1 0) (fun y6 hey6=>?_)
   refine WG (fun _ hl=>?_) (fun y8 hly8=>?_)
   ·exact Wi (by omega)
   ·exact X9
 ·unfold M.Qp
  try simp only [Int.toNat_natCast]
  exact YA (decide_eq_false (by omega)) rfl
noncomputable def S.Qq (a0:XO) (i12:Nat) (i15:Nat):Option (Unit ⊕ Int) :=
 bif (((((a0.ZG.getD i15 default).Zh).Zm)==(((a0.ZG.getD i12 default).Zh).Zm))&&(((((a0.ZG.getD i15 default).Zh).ZE)==(((a0.ZG.getD i12 default).Zh).ZE))&&true)) then (some (.inr 4)) else none
theorem Zay (a0:XO) (i12:Nat) (ha0:Xr a0) (hi12:i12 < a0.ZG.length) (i0:Nat):loopM (M.Qq a0 (i12:Int)) (i0:Int)=some (runN (S.Qq a0 i12) (.inl ()) i0 (i12 - i0)):=by
 have hM:=Zn
 have hni12:a0.ZG.length≤maxLen:=(Xr.ZG ha0)
 have hni15:i12≤maxLen:=(by omega)
 refine Xq (n:=i12) (fun i15 hi15=>?_) (fun m hm=>?_) i0
 ·unfold M.Qq S.Qq
  try simp only [Int.toNat_natCast]
  refine Yz (dt (by omega)) ?_
  refine Jk (Zz (dt (by omega)) (Zz (dt (by omega)) (Zz (dt (by omega)) (Zz (dt (by omega)) Ym)))) ?_
  refine Yr (fun hb6=>?_) (fun hb6=>?_)
  ·exact X9
  ·exact Wi (by omega)
 ·unfold M.Qq
  try simp only [Int.toNat_natCast]
  exact YA (decide_eq_false (by omega)) rfl
noncomputable def S.Qr (a0:XO) (i12:Nat):Option (Unit ⊕ Int) :=
 letS (S.Y9 ((a0.ZG.getD i12 default).Zh)) (fun r14=>bif !r14 then (some (.inr 1)) else (letS (runN (S.Qq a0 i12) (.inl ()) 0 i12) (fun y17=>Sum.elim (fun _=>none) (fun y19=>some (.inr y19)) y17)))
theorem Zaz (a0:XO) (ha0:Xr a0) (i0:Nat):loopM (M.Qr a0) (i0:Int)=some (runN (S.Qr a0) (.inl ()) i0 (a0.ZG.length - i0)):=by
 have hM:=Zn
 have hni12:a0.ZG.length≤maxLen:=(Xr.ZG ha0)
 refine Xq (n:=a0.ZG.length) (fun i12 hi12=>?_) (fun m hm=>?_) i0
 ·unfold M.Qr S.Qr
  try simp only [Int.toNat_natCast]
  refine Yz (dt (by omega)) ?_
  refine Xy (Uj ((a0.ZG.getD i12 default).Zh)) (fun r14 her14=>?_)
  refine Jk (Zz (dt (by omega)) (Zz (dt (by omega)) Ym)) ?_
  refine Yr (fun hb5=>?_) (fun hb5=>?_)
  ·exact X9
  ·refine Xy (Zay a0 i12 ha0 hi12 0) (fun y17 hey17=>?_)
   refine WG (fun _ hl=>?_) (fun y19 hly19=>?_)
   ·exact Wi (by omega)
   ·exact X9
 ·unfold M.Qr
  try simp only [Int.toNat_natCast]
  exact YA (decide_eq_false (by omega)) rfl
noncomputable def S.Qs (a0:XO) (i23:Nat) (i27:Nat):Option (Unit ⊕ Int) :=
 bif (((((a0.Zv.getD i27 default).Zh).Zm)==(((a0.Zv.getD i23 default).Zh).Zm))&&(((((a0.Zv.getD i27 default).Zh).ZE)==(((a0.Zv.getD i23 default).Zh).ZE))&&true)) then (some (.inr 4)) else none
theorem ZaA (a0:XO) (i23:Nat) (ha0:Xr a0) (hi23:i23 < a0.Zv.length) (i0:Nat):loopM (M.Qs a0 (i23:Int)) (i0:Int)=some (runN (S.Qs a0 i23) (.inl ()) i0 (i23 - i0)):=by
 have hM:=Zn
 have hni23:a0.Zv.length≤maxLen:=(Xr.Zv ha0)
 have hni27:i23≤maxLen:=(by omega)
 refine Xq (n:=i23) (fun i27 hi27=>?_) (fun m hm=>?_) i0
 ·unfold M.Qs S.Qs
  try simp only [Int.toNat_natCast]
  refine Yz (dt (by omega)) ?_
  refine Jk (Zz (dt (by omega)) (Zz (dt (by omega)) Ym)) ?_
  refine Yr (fun hb10=>?_) (fun hb10=>?_)
  ·exact X9
  ·exact Wi (by omega)
 ·unfold M.Qs
  try simp only [Int.toNat_natCast]
  exact YA (decide_eq_false (by omega)) rfl
noncomputable def S.Qt (a0:XO) (i23:Nat):Option (Unit ⊕ Int) :=
 letS (S.Y9 ((a0.Zv.getD i23 default).Zh)) (fun r25=>letS (bif (!(!r25)) then S.Y9 ((a0.Zv.getD i23 default).fIf) else default) (fun r26=>bif (!r25)||(!r26) then (some (.inr 1)) else (bif (((((a0.Zv.getD i23 default).Zh).Zm)==(((a0.Zv.getD i23 default).fIf).Zm))&&(((((a0.Zv.getD i23 default).Zh).ZE)==(((a0.Zv.getD i23 default).fIf).ZE))&&true)) then (some (.inr 6)) else (letS (runN (S.Qs a0 i23) (.inl ()) 0 i23) (fun y29=>Sum.elim (fun _=>none) (fun y31=>some (.inr y31)) y29)))))
theorem ZaB (a0:XO) (ha0:Xr a0) (i0:Nat):loopM (M.Qt a0) (i0:Int)=some (runN (S.Qt a0) (.inl ()) i0 (a0.Zv.length - i0)):=by
 have hM:=Zn
 have hni23:a0.Zv.length≤maxLen:=(Xr.Zv ha0)
 refine Xq (n:=a0.Zv.length) (fun i23 hi23=>?_) (fun m hm=>?_) i0
 ·unfold M.Qt S.Qt
  try simp only [Int.toNat_natCast]
  refine Yz (dt (by omega)) ?_
  refine Jk (Zz (dt (by omega)) (Zz (dt (by omega)) Ym)) ?_
  refine Xy (Uj ((a0.Zv.getD i23 default).Zh)) (fun r25 her25=>?_)
  refine Xy (Vx fun hg=>(Uj ((a0.Zv.getD i23 default).fIf))) (fun r26 her26=>?_)
  refine Yr (fun hb8=>?_) (fun hb8=>?_)
  ·exact X9
  ·refine Yr (fun hb9=>?_) (fun hb9=>?_)
   ·exact X9
   ·refine Xy (ZaA a0 i23 ha0 hi23 0) (fun y29 hey29=>?_)
    refine WG (fun _ hl=>?_) (fun y31 hly31=>?_)
    ·exact Wi (by omega)
    ·exact X9
 ·unfold M.Qt
  try simp only [Int.toNat_natCast]
  exact YA (decide_eq_false (by omega)) rfl
noncomputable def S.Js (a0:XO):Int :=
 bif decide ((a0.ZY.length:Int) > 8) then 7 else (letS (runN (S.Qp a0) (.inl ()) 0 a0.ZY.length) (fun y9=>Sum.elim (fun _=>bif decide ((a0.ZG.length:Int) > 8) then 7 else (letS (runN (S.Qr a0) (.inl ()) 0 a0.ZG.length) (fun y20=>Sum.elim (fun _=>bif decide ((a0.Zv.length:Int) > 8) then 7 else (letS (runN (S.Qt a0) (.inl ()) 0 a0.Zv.length) (fun y32=>Sum.elim (fun _=>0) (fun y34=>y34) y32))) (fun y22=>y22) y20))) (fun y11=>y11) y9))
theorem Zcu (a0:XO) (ha0:Xr a0):M.Js a0=some (S.Js a0):=by
 have hM:=Zn
 unfold M.Js S.Js
 refine VZ (fun hb1=>?_) (fun hb1=>?_)
 ·rfl
 ·refine Xa (Zax a0 ha0 0) (fun y9 hey9=>?_)
  refine JA (fun _ hl=>?_) (fun y11 hly11=>?_)
  ·refine VZ (fun hb4=>?_) (fun hb4=>?_)
   ·rfl
   ·refine Xa (Zaz a0 ha0 0) (fun y20 hey20=>?_)
    refine JA (fun _ hl=>?_) (fun y22 hly22=>?_)
    ·refine VZ (fun hb7=>?_) (fun hb7=>?_)
     ·rfl
     ·refine Xa (ZaB a0 ha0 0) (fun y32 hey32=>?_)
      refine JA (fun _ hl=>?_) (fun y34 hly34=>?_)
      ·rfl
      ·rfl
    ·rfl
  ·rfl
noncomputable def S.Q8 (a0:Zi):Int :=
 bif !a0.Xz.Wr then (bif ((a0.Xz.X6 != 0)||(a0.Xz.X7 != 0))||(decide ((wr .i64 ((wr .i64 ((wr .i64 ((wr .i64 ((a0.Xz.Zp.length:Int)+(a0.Xz.ZY.length:Int)))+(a0.Xz.ZG.length:Int)))+(a0.Xz.Zv.length:Int)))+(a0.Xz.Zu.length:Int))) > 0)) then 1 else 0) else (letS (bif (!(a0.KQ==0)) then S.ZT a0.Xz.X6 1 255 else default) (fun r1=>letS (bif (!((a0.KQ==0)||(!r1))) then S.ZT a0.Xz.X7 1 255 else default) (fun r2=>bif ((a0.KQ==0)||(!r1))||(!r2) then 1 else (letS (S.VS a0) (fun r3=>bif r3 != 0 then r3 else (letS (S.Js a0.Xz) (fun r4=>bif r4 != 0 then r4 else (letS (S.Yk a0 a0.Xz.Zu 5 0 16777215) (fun r5=>r5)))))))))
theorem Zei (a0:Zi) (ha0:Zr a0):M.Q8 a0=some (S.Q8 a0):=by
 have hM:=Zn
 unfold M.Q8 S.Q8
 refine VZ (fun hb1=>?_) (fun hb1=>?_)
 ·refine VZ (fun hb2=>?_) (fun hb2=>?_)
  ·rfl
  ·rfl
 ·refine Xa (Vx fun hg=>(X4 a0.Xz.X6 1 255)) (fun r1 her1=>?_)
  refine Xa (Vx fun hg=>(X4 a0.Xz.X7 1 255)) (fun r2 her2=>?_)
  refine VZ (fun hb3=>?_) (fun hb3=>?_)
  ·rfl
  ·refine Xa (ZeV a0 ha0) (fun r3 her3=>?_)
   refine VZ (fun hb4=>?_) (fun hb4=>?_)
   ·rfl
   ·refine Xa (Zcu a0.Xz (Zr.Xz ha0)) (fun r4 her4=>?_)
    refine VZ (fun hb5=>?_) (fun hb5=>?_)
    ·rfl
    ·refine Xa (U1 a0 a0.Xz.Zu 5 0 16777215 ha0 (Xr.Zu (Zr.Xz ha0))) (fun r5 her5=>?_)
     rfl
noncomputable def S.Yy (r3:Int) (r4:Int) (r5:Int) (r6:Int) (r7:Int) (r8:Int) (r9:Int) (r10:Int) (r11:Int) (r12:Int) (i13:Nat):Option (Unit ⊕ Int) :=
 bif (([r3,r4,r5,r6,r7,r8,r9,r10,r11,r12]:List Int).getD i13 default) != 0 then (some (.inr (([r3,r4,r5,r6,r7,r8,r9,r10,r11,r12]:List Int).getD i13 default))) else none
theorem ZaY (r3:Int) (r4:Int) (r5:Int) (r6:Int) (r7:Int) (r8:Int) (r9:Int) (r10:Int) (r11:Int) (r12:Int)  (i0:Nat):loopM (M.Yy r3 r4 r5 r6 r7 r8 r9 r10 r11 r12) (i0:Int)=some (runN (S.Yy r3 r4 r5 r6 r7 r8 r9 r10 r11 r12) (.inl ()) i0 (([r3,r4,r5,r6,r7,r8,r9,r10,r11,r12]:List Int).length - i0)):=by
 have hM:=Zn
 have hni13:([r3,r4,r5,r6,r7,r8,r9,r10,r11,r12]:List Int).length≤maxLen:=(by simp [Zn])
 refine Xq (n:=([r3,r4,r5,r6,r7,r8,r9,r10,r11,r12]:List Int).length) (fun i13 hi13=>?_) (fun m hm=>?_) i0
 ·unfold M.Yy S.Yy
  try simp only [Int.toNat_natCast]
  refine Yz (dt (by omega)) ?_
  refine Jk (Zz (dt (by omega)) (Zz (dt (by first | omega | (simp; omega) | (simp at *; omega))) Ym)) ?_
  refine Yr (fun hb3=>?_) (fun hb3=>?_)
  ·refine Jk (Zz (dt (by omega)) (Zz (dt (by first | omega | (simp; omega) | (simp at *; omega))) Ym)) ?_
   exact X9
  ·exact Wi (by omega)
 ·unfold M.Yy
  try simp only [Int.toNat_natCast]
  exact YA (decide_eq_false (by omega)) rfl
noncomputable def S.YJ (a0:Zi):Int :=
 letS (S.Jy a0.XG) (fun r1=>bif !r1 then 3 else (letS (S.ZT a0.KQ 0 65535) (fun r2=>bif !r2 then 1 else (letS (S.Yx a0.Zc) (fun r3=>letS (S.QP a0.YV) (fun r4=>letS (S.JB a0) (fun r5=>letS (S.QQ a0.Y5) (fun r6=>letS (S.Qn a0) (fun r7=>letS (S.VQ a0) (fun r8=>letS (S.VR a0) (fun r9=>letS (S.JD a0) (fun r10=>letS (S.Vb a0) (fun r11=>letS (S.Q8 a0) (fun r12=>letS (runN (S.Yy r3 r4 r5 r6 r7 r8 r9 r10 r11 r12) (.inl ()) 0 (([r3,r4,r5,r6,r7,r8,r9,r10,r11,r12]:List Int).length)) (fun y15=>Sum.elim (fun _=>0) (fun y17=>y17) y15)))))))))))))))
theorem Zdh (a0:Zi) (ha0:Zr a0):M.YJ a0=some (S.YJ a0):=by
 have hM:=Zn
 unfold M.YJ S.YJ
 refine Xa (KF a0.XG (Zr.XG ha0)) (fun r1 her1=>?_)
 refine VZ (fun hb1=>?_) (fun hb1=>?_)
 ·rfl
 ·refine Xa (X4 a0.KQ 0 65535) (fun r2 her2=>?_)
  refine VZ (fun hb2=>?_) (fun hb2=>?_)
  ·rfl
  ·refine Xa (Zec a0.Zc (Zr.Zc ha0)) (fun r3 her3=>?_)
   refine Xa (Zdc a0.YV (Zr.YV ha0)) (fun r4 her4=>?_)
   refine Xa (ZeR a0 ha0) (fun r5 her5=>?_)
   refine Xa (Zdd a0.Y5 (Zr.Y5 ha0)) (fun r6 her6=>?_)
   refine Xa (Zco a0 ha0) (fun r7 her7=>?_)
   refine Xa (ZgO a0 ha0) (fun r8 her8=>?_)
   refine Xa (ZgP a0 ha0) (fun r9 her9=>?_)
   refine Xa (ZeU a0 ha0) (fun r10 her10=>?_)
   refine Xa (Zfy a0 ha0) (fun r11 her11=>?_)
   refine Xa (Zei a0 ha0) (fun r12 her12=>?_)
   refine Xa (ZaY r3 r4 r5 r6 r7 r8 r9 r10 r11 r12 0) (fun y15 hey15=>?_)
   refine JA (fun _ hl=>?_) (fun y17 hly17=>?_)
   ·rfl
   ·rfl
noncomputable def S.Vc (a0:ZI) (i1:Nat) (i4:Nat):Option (Unit ⊕ Int) :=
 bif strEq ((a0.Ze.getD i4 default).XG) ((a0.Ze.getD i1 default).XG) then (some (.inr 4)) else none
theorem Zfz (a0:ZI) (i1:Nat) (ha0:YY a0) (hi1:i1 < a0.Ze.length) (i0:Nat):loopM (M.Vc a0 (i1:Int)) (i0:Int)=some (runN (S.Vc a0 i1) (.inl ()) i0 (i1 - i0)):=by
 have hM:=Zn
 have hni1:a0.Ze.length≤maxLen:=(YY.Ze ha0).1
 have hni4:i1≤maxLen:=(by omega)
 refine Xq (n:=i1) (fun i4 hi4=>?_) (fun m hm=>?_) i0
 ·unfold M.Vc S.Vc
  try simp only [Int.toNat_natCast]
  refine Yz (dt (by omega)) ?_
  refine Jk (Zz (dt (by omega)) (Zz (dt (by omega)) (Zz (dt (by omega)) (Zz (dt (by omega)) Ym)))) ?_
  refine Yr (fun hb3=>?_) (fun hb3=>?_)
  ·exact X9
  ·exact Wi (by omega)
 ·unfold M.Vc
  try simp only [Int.toNat_natCast]
  exact YA (decide_eq_false (by omega)) rfl
noncomputable def S.JQ (a0:ZI) (i1:Nat) (i9:Nat) (i11:Nat):Option (Unit ⊕ Int) :=
 letS (bif (((((a0.Ze.getD i1 default).Zc).getD i9 default).ZE) != 0) then S.Vl (a0.Ze.getD i11 default) ((((a0.Ze.getD i1 default).Zc).getD i9 default).Zm) else default) (fun r13=>bif (((((a0.Ze.getD i1 default).Zc).getD i9 default).ZE) != 0)&&(decide (r13 ≥ 0)) then (some (.inr 4)) else none)
theorem ZfA (a0:ZI) (i1:Nat) (i9:Nat) (ha0:YY a0) (hi1:i1 < a0.Ze.length) (hi9:i9 < ((a0.Ze.getD i1 default).Zc).length) (i0:Nat):loopM (M.JQ a0 (i1:Int) (i9:Int)) (i0:Int)=some (runN (S.JQ a0 i1 i9) (.inl ()) i0 (i1 - i0)):=by
 have hM:=Zn
 have hni1:a0.Ze.length≤maxLen:=(YY.Ze ha0).1
 have hni9:((a0.Ze.getD i1 default).Zc).length≤maxLen:=(Zr.Zc (LL.getD (YY.Ze ha0) Zr.dflt i1)).1
 have hni11:i1≤maxLen:=(by omega)
 refine Xq (n:=i1) (fun i11 hi11=>?_) (fun m hm=>?_) i0
 ·unfold M.JQ S.JQ
  try simp only [Int.toNat_natCast]
  refine Yz (dt (by omega)) ?_
  refine Xy (Vx fun hg=>(ZbP (a0.Ze.getD i11 default) ((((a0.Ze.getD i1 default).Zc).getD i9 default).Zm) (LL.getD (YY.Ze ha0) Zr.dflt i11))) (fun r13 her13=>?_)
  refine Jk (Zz (X5 fun hg=>(dt (by first | omega | (simp; omega) | (simp at *; omega)))) (Zz (X5 fun hg=>(dt (by first | omega | (simp; omega) | (simp at *; omega)))) Ym)) ?_
  refine Yr (fun hb4=>?_) (fun hb4=>?_)
  ·exact X9
  ·exact Wi (by omega)
 ·unfold M.JQ
  try simp only [Int.toNat_natCast]
  exact YA (decide_eq_false (by omega)) rfl
noncomputable def S.JR (a0:ZI) (i1:Nat) (i9:Nat):Option (Unit ⊕ Int) :=
 letS (runN (S.JQ a0 i1 i9) (.inl ()) 0 i1) (fun y14=>Sum.elim (fun _=>none) (fun y16=>some (.inr y16)) y14)
theorem ZfB (a0:ZI) (i1:Nat) (ha0:YY a0) (hi1:i1 < a0.Ze.length) (i0:Nat):loopM (M.JR a0 (i1:Int)) (i0:Int)=some (runN (S.JR a0 i1) (.inl ()) i0 (((a0.Ze.getD i1 default).Zc).length - i0)):=by
 have hM:=Zn
 have hni1:a0.Ze.length≤maxLen:=(YY.Ze ha0).1
 have hni9:((a0.Ze.getD i1 default).Zc).length≤maxLen:=(Zr.Zc (LL.getD (YY.Ze ha0) Zr.dflt i1)).1
 refine Xq (n:=((a0.Ze.getD i1 default).Zc).length) (fun i9 hi9=>?_) (fun m hm=>?_) i0
 ·unfold M.JR S.JR
  try simp only [Int.toNat_natCast]
  refine Jk (Zz (dt (by omega)) (Zz (dt (by omega)) Ym))  ?_
  refine Yz (dt (by omega)) ?_
  refine Jk (Zz (dt (by omega)) (Zz (dt (by omega)) (Zz (dt (by omega)) (Zz (dt (by omega)) Ym)))) ?_
  refine Xy (ZfA a0 i1 i9 ha0 hi1 hi9 0) (fun y14 hey14=>?_)
  refine WG (fun _ hl=>?_) (fun y16 hly16=>?_)
  ·exact Wi (by omega)
  ·exact X9
 ·unfold M.JR
  try simp only [Int.toNat_natCast]
  refine Jk (Zz (dt (by omega)) (Zz (dt (by omega)) Ym))  ?_
  exact YA (decide_eq_false (by omega)) rfl
noncomputable def S.JS (a0:ZI) (i1:Nat):Option (Unit ⊕ Int) :=
 letS (S.YJ (a0.Ze.getD i1 default)) (fun r3=>bif r3 != 0 then (some (.inr r3)) else (letS (runN (S.Vc a0 i1) (.inl ()) 0 i1) (fun y6=>Sum.elim (fun _=>letS (runN (S.JR a0 i1) (.inl ()) 0 (((a0.Ze.getD i1 default).Zc).length)) (fun y17=>Sum.elim (fun _=>none) (fun y19=>some (.inr y19)) y17)) (fun y8=>some (.inr y8)) y6)))
theorem ZfC (a0:ZI) (ha0:YY a0) (i0:Nat):loopM (M.JS a0) (i0:Int)=some (runN (S.JS a0) (.inl ()) i0 (a0.Ze.length - i0)):=by
 have hM:=Zn
 have hni1:a0.Ze.length≤maxLen:=(YY.Ze ha0).1
 refine Xq (n:=a0.Ze.length) (fun i1 hi1=>?_) (fun m hm=>?_) i0
 ·unfold M.JS S.JS
  try simp only [Int.toNat_natCast]
  refine Yz (dt (by omega)) ?_
  refine Xy (Zdh (a0.Ze.getD i1 default) (LL.getD (YY.Ze ha0) Zr.dflt i1)) (fun r3 her3=>?_)
  refine Jk (Zz (dt (by omega)) (Zz (dt (by omega)) Ym)) ?_
  refine Yr (fun hb2=>?_) (fun hb2=>?_)
  ·exact X9
  ·refine Xy (Zfz a0 i1 ha0 hi1 0) (fun y6 hey6=>?_)
   refine WG (fun _ hl=>?_) (fun y8 hly8=>?_)
   ·refine Xy (ZfB a0 i1 ha0 hi1 0) (fun y17 hey17=>?_)
    refine WG (fun _ hl=>?_) (fun y19 hly19=>?_)
    ·exact Wi (by omega)
    ·exact X9
   ·exact X9
 ·unfold M.JS
  try simp only [Int.toNat_natCast]
  exact YA (decide_eq_false (by omega)) rfl
noncomputable def S.JE (a0:ZI):Int :=
 bif decide ((a0.Ze.length:Int) > 8) then 7 else (letS (runN (S.JS a0) (.inl ()) 0 a0.Ze.length) (fun y20=>Sum.elim (fun _=>0) (fun y22=>y22) y20))
theorem Zic (a0:ZI) (ha0:YY a0):M.JE a0=some (S.JE a0):=by
 have hM:=Zn
 unfold M.JE S.JE
 refine VZ (fun hb1=>?_) (fun hb1=>?_)
 ·rfl
 ·refine Xa (ZfC a0 ha0 0) (fun y20 hey20=>?_)
  refine JA (fun _ hl=>?_) (fun y22 hly22=>?_)
  ·rfl
  ·rfl
noncomputable def S.Vo (a0:ZL) (a1:ZL):Int :=
 bif (decide (a0.Zm < a1.Zm))||((a0.Zm==a1.Zm)&&(decide (a0.ZE < a1.ZE))) then (-1) else (bif ((a0.Zm==a1.Zm)&&((a0.ZE==a1.ZE)&&true)) then 0 else 1)
theorem ZbQ (a0:ZL) (a1:ZL) :M.Vo a0 a1=some (S.Vo a0 a1):=by
 have hM:=Zn
 unfold M.Vo S.Vo
 refine VZ (fun hb1=>?_) (fun hb1=>?_)
 ·rfl
 ·refine VZ (fun hb2=>?_) (fun hb2=>?_)
  ·rfl
  ·rfl
noncomputable def S.Yo (a0:List Int) (a1:Int) (i1:Nat):Option (Unit ⊕ Bool) :=
 bif ((decide ((a0.getD i1 default) < 0))||(decide ((a0.getD i1 default) ≥ a1)))||((decide ((i1:Int) > 0))&&(decide ((a0.getD i1 default)≤(a0.getD (wr .i64 ((i1:Int) - 1)).toNat default)))) then (some (.inr false)) else none
theorem ZbR (a0:List Int) (a1:Int) (ha0:a0.length≤maxLen) (i0:Nat):loopM (M.Yo a0 a1) (i0:Int)=some (runN (S.Yo a0 a1) (.inl ()) i0 (a0.length - i0)):=by
 have hM:=Zn
 have hni1:a0.length≤maxLen:=ha0
 refine Xq (n:=a0.length) (fun i1 hi1=>?_) (fun m hm=>?_) i0
 ·unfold M.Yo S.Yo
  try simp only [Int.toNat_natCast]
  have hdi1:wr .i64 ((i1:Int) - 1)=(i1:Int) - 1:=ZjJ (by omega)
  refine Yz (dt (by omega)) ?_
  refine Jk (Zz (dt (by omega)) (Zz (dt (by omega)) (Zz (X5 fun hg=>(dt (by first | omega | (simp; omega) | (simp at *; omega)))) (Zz (X5 fun hg=>(dt (by first | omega | (simp; omega) | (simp at *; omega)))) (Zz (X5 fun hg=>(dt (by first | omega | (simp; omega) | (simp at *; omega)))) (Zz (X5 fun hg=>(dt (by first | omega | (simp; omega) | (simp at *; omega)))) (Zz (X5 fun hg=>(dt (by first | omega | (simp; omega) | (simp at *; omega)))) (Zz (X5 fun hg=>(dt (by first | omega | (simp; omega) | (simp at *; omega)))) Ym)))))))) ?_
  refine Yr (fun hb2=>?_) (fun hb2=>?_)
  ·exact X9
  ·exact Wi (by omega)
 ·unfold M.Yo
  try simp only [Int.toNat_natCast]
  exact YA (decide_eq_false (by omega)) rfl
noncomputable def S.Q9 (a0:List Int) (a1:Int):Bool :=
 bif decide ((a0.length:Int) > 2) then false else (letS (runN (S.Yo a0 a1) (.inl ()) 0 a0.length) (fun y3=>Sum.elim (fun _=>true) (fun y5=>y5) y3))
theorem Zej (a0:List Int) (a1:Int) (ha0:a0.length≤maxLen):M.Q9 a0 a1=some (S.Q9 a0 a1):=by
 have hM:=Zn
 unfold M.Q9 S.Q9
 refine VZ (fun hb1=>?_) (fun hb1=>?_)
 ·rfl
 ·refine Xa (ZbR a0 a1 ha0 0) (fun y3 hey3=>?_)
  refine JA (fun _ hl=>?_) (fun y5 hly5=>?_)
  ·rfl
  ·rfl
noncomputable def S.XV (a0:Int) (a1:Int) (a2:Int):Bool :=
 (decide (a1≤a0))&&(decide (a0≤a2))
theorem Je (a0:Int) (a1:Int) (a2:Int) :M.XV a0 a1 a2=some (S.XV a0 a1 a2):=by
 have hM:=Zn
 unfold M.XV S.XV
 rfl
noncomputable def S.QV (a0:ZM) (a1:Bool) (a2:Bool) (a3:Bool):Bool :=
 ((a1||(a0.Zag==0))&&(a2||(((a0.Zgv==0)&&((a0.Ua.length:Int)==0))&&(a0.W3==0))))&&(a3||(a0.YF==0))
theorem GE (a0:ZM) (a1:Bool) (a2:Bool) (a3:Bool) (ha0:QX a0):M.QV a0 a1 a2 a3=some (S.QV a0 a1 a2 a3):=by
 have hM:=Zn
 unfold M.QV S.QV
 rfl
noncomputable def S.Qf (a0:ZF) (a1:ZF):Bool :=
 (decide (a0.ZP < a1.ZP))||((a0.ZP==a1.ZP)&&(decide (a0.Zm < a1.Zm)))
theorem ZfD (a0:ZF) (a1:ZF) :M.Qf a0 a1=some (S.Qf a0 a1):=by
 have hM:=Zn
 unfold M.Qf S.Qf
 rfl
noncomputable def S.Vd (a0:List ZF) (a1:Bool) (i1:Nat):Option (Unit ⊕ Bool) :=
 letS (bif ((!(decide (((a0.getD i1 default).ZP) < 0)))&&(decide ((i1:Int) > 0))) then S.Qf (a0.getD (wr .i64 ((i1:Int) - 1)).toNat default) (a0.getD i1 default) else default) (fun r3=>bif ((decide (((a0.getD i1 default).ZP) < 0))||((decide ((i1:Int) > 0))&&(!r3)))||(!((((a0.getD i1 default).Zm)==0)==a1)) then (some (.inr false)) else none)
theorem ZfE (a0:List ZF) (a1:Bool) (ha0:a0.length≤maxLen) (i0:Nat):loopM (M.Vd a0 a1) (i0:Int)=some (runN (S.Vd a0 a1) (.inl ()) i0 (a0.length - i0)):=by
 have hM:=Zn
 have hni1:a0.length≤maxLen:=ha0
 refine Xq (n:=a0.length) (fun i1 hi1=>?_) (fun m hm=>?_) i0
 ·unfold M.Vd S.Vd
  try simp only [Int.toNat_natCast]
  have hdi1:wr .i64 ((i1:Int) - 1)=(i1:Int) - 1:=ZjJ (by omega)
  refine Yz (dt (by omega)) ?_
  refine Xy (Vx fun hg=>(ZfD (a0.getD (wr .i64 ((i1:Int) - 1)).toNat default) (a0.getD i1 default))) (fun r3 her3=>?_)
  refine Jk (Zz (dt (by omega)) (Zz (dt (by omega)) (Zz (X5 fun hg=>(dt (by first | omega | (simp; omega) | (simp at *; omega)))) (Zz (X5 fun hg=>(dt (by first | omega | (simp; omega) | (simp at *; omega)))) (Zz (X5 fun hg=>(dt (by first | omega | (simp; omega) | (simp at *; omega)))) (Zz (X5 fun hg=>(dt (by first | omega | (simp; omega) | (simp at *; omega)))) (Zz (X5 fun hg=>(dt (by first | omega | (simp; omega) | (simp at *; omega)))) (Zz (X5 fun hg=>(dt (by first | omega | (simp; omega) | (simp at *; omega)))) Ym)))))))) ?_
  refine Yr (fun hb1=>?_) (fun hb1=>?_)
  ·exact X9
  ·exact Wi (by omega)
 ·unfold M.Vd
  try simp only [Int.toNat_natCast]
  exact YA (decide_eq_false (by omega)) rfl
noncomputable def S.Qh (a0:List ZF) (a1:Bool):Bool :=
 letS (runN (S.Vd a0 a1) (.inl ()) 0 a0.length) (fun y4=>Sum.elim (fun _=>true) (fun y6=>y6) y4)
theorem Gr (a0:List ZF) (a1:Bool) (ha0:a0.length≤maxLen):M.Qh a0 a1=some (S.Qh a0 a1):=by
 have hM:=Zn
 unfold M.Qh S.Qh
 refine Xa (ZfE a0 a1 ha0 0) (fun y4 hey4=>?_)
 refine JA (fun _ hl=>?_) (fun y6 hly6=>?_)
 ·rfl
 ·rfl
noncomputable def S.Qu (a0:ZM):Bool :=
 letS (bif (!((a0.Yj != 0)||(a0.Qk != 0))) then S.XV a0.Z5 1 255 else default) (fun r1=>letS (bif (!(((a0.Yj != 0)||(a0.Qk != 0))||(!r1))) then S.QV a0 false false true else default) (fun r2=>bif (((a0.Yj != 0)||(a0.Qk != 0))||(!r1))||(!r2) then false else (bif a0.YF != 0 then (((a0.ZQ.length:Int)==0)&&(!a0.ZS)) else (bif a0.ZS then ((a0.ZQ.length:Int)==0) else (letS (bif ((a0.ZQ.length:Int)==1) then S.Qh a0.ZQ true else default) (fun r3=>((a0.ZQ.length:Int)==1)&&r3))))))
theorem Zcv (a0:ZM) (ha0:QX a0):M.Qu a0=some (S.Qu a0):=by
 have hM:=Zn
 unfold M.Qu S.Qu
 refine Xa (Vx fun hg=>(Je a0.Z5 1 255)) (fun r1 her1=>?_)
 refine Xa (Vx fun hg=>(GE a0 false false true ha0)) (fun r2 her2=>?_)
 refine VZ (fun hb1=>?_) (fun hb1=>?_)
 ·rfl
 ·refine VZ (fun hb2=>?_) (fun hb2=>?_)
  ·rfl
  ·refine VZ (fun hb3=>?_) (fun hb3=>?_)
   ·rfl
   ·refine Xa (Vx fun hg=>(Gr a0.ZQ true (QX.ZQ ha0))) (fun r3 her3=>?_)
    rfl
noncomputable def S.YD (a0:ZM):Bool :=
 letS (S.XV a0.Yj 1 4) (fun r1=>letS (bif (!(!r1)) then S.XV a0.Z5 1 255 else default) (fun r2=>letS (bif (!((!r1)||(!r2))) then S.XV a0.Qk 0 1073741824 else default) (fun r3=>letS (bif (!(((!r1)||(!r2))||(!r3))) then S.QV a0 true false false else default) (fun r4=>bif (((!r1)||(!r2))||(!r3))||(!r4) then false else (letS (S.XV a0.Zag 0 1073741824) (fun r5=>bif (!r5)||((a0.Yj != 4)&&(a0.Zag != 0)) then false else (bif a0.ZS then ((((a0.Yj==1)&&(a0.Qk==0))&&(a0.UP==0))&&((a0.ZQ.length:Int)==0)) else (letS (bif (decide ((a0.ZQ.length:Int) > 0)) then S.Qh a0.ZQ false else default) (fun r6=>(decide ((a0.ZQ.length:Int) > 0))&&r6)))))))))
theorem ZaC (a0:ZM) (ha0:QX a0):M.YD a0=some (S.YD a0):=by
 have hM:=Zn
 unfold M.YD S.YD
 refine Xa (Je a0.Yj 1 4) (fun r1 her1=>?_)
 refine Xa (Vx fun hg=>(Je a0.Z5 1 255)) (fun r2 her2=>?_)
 refine Xa (Vx fun hg=>(Je a0.Qk 0 1073741824)) (fun r3 her3=>?_)
 refine Xa (Vx fun hg=>(GE a0 true false false ha0)) (fun r4 her4=>?_)
 refine VZ (fun hb1=>?_) (fun hb1=>?_)
 ·rfl
 ·refine Xa (Je a0.Zag 0 1073741824) (fun r5 her5=>?_)
  refine VZ (fun hb2=>?_) (fun hb2=>?_)
  ·rfl
  ·refine VZ (fun hb3=>?_) (fun hb3=>?_)
   ·rfl
   ·refine Xa (Vx fun hg=>(Gr a0.ZQ false (QX.ZQ ha0))) (fun r6 her6=>?_)
    rfl
noncomputable def S.YS (a0:ZM):Bool :=
 letS (S.XV a0.Z5 1 255) (fun r1=>letS (bif (!(!r1)) then S.XV a0.Qk 1 15 else default) (fun r2=>letS (bif (!((!r1)||(!r2))) then S.QV a0 false false false else default) (fun r3=>bif (((!r1)||(!r2))||(!r3))||a0.ZS then false else (bif a0.Yj==1 then (letS (bif (((a0.Qk==1)&&(a0.UP==0))&&((a0.ZQ.length:Int)==1)) then S.Qh a0.ZQ true else default) (fun r4=>(((a0.Qk==1)&&(a0.UP==0))&&((a0.ZQ.length:Int)==1))&&r4)) else (bif a0.Yj==2 then ((a0.ZQ.length:Int)==0) else (bif a0.Yj==3 then (letS (bif (decide ((a0.ZQ.length:Int) > 0)) then S.Qh a0.ZQ false else default) (fun r5=>(decide ((a0.ZQ.length:Int) > 0))&&r5)) else false))))))
theorem ZaZ (a0:ZM) (ha0:QX a0):M.YS a0=some (S.YS a0):=by
 have hM:=Zn
 unfold M.YS S.YS
 refine Xa (Je a0.Z5 1 255) (fun r1 her1=>?_)
 refine Xa (Vx fun hg=>(Je a0.Qk 1 15)) (fun r2 her2=>?_)
 refine Xa (Vx fun hg=>(GE a0 false false false ha0)) (fun r3 her3=>?_)
 refine VZ (fun hb1=>?_) (fun hb1=>?_)
 ·rfl
 ·refine VZ (fun hb2=>?_) (fun hb2=>?_)
  ·refine Xa (Vx fun hg=>(Gr a0.ZQ true (QX.ZQ ha0))) (fun r4 her4=>?_)
   rfl
  ·refine VZ (fun hb3=>?_) (fun hb3=>?_)
   ·rfl
   ·refine VZ (fun hb4=>?_) (fun hb4=>?_)
    ·refine Xa (Vx fun hg=>(Gr a0.ZQ false (QX.ZQ ha0))) (fun r5 her5=>?_)
     rfl
    ·rfl
noncomputable def S.Yu (a0:ZM) (p6:Bool):Bool :=
 bif p6 then (letS (bif ((((a0.Yj==4)||(decide ((a0.Ua.length:Int) > 0)))&&(a0.W3 != 0))&&((a0.ZQ.length:Int)==1)) then S.Qh a0.ZQ false else default) (fun r7=>((((((a0.Yj==4)||(decide ((a0.Ua.length:Int) > 0)))&&(a0.W3 != 0))&&((a0.ZQ.length:Int)==1))&&r7)&&(((a0.ZQ.getD (0:Int).toNat default).Zm)==a0.W3))&&(!a0.ZS))) else false
theorem KG (a0:ZM) (p6:Bool) (ha0:QX a0):M.Yu a0 p6=some (S.Yu a0 p6):=by
 have hM:=Zn
 unfold M.Yu S.Yu
 refine VZ (fun hb5=>?_) (fun hb5=>?_)
 ·refine Xa (Vx fun hg=>(Gr a0.ZQ false (QX.ZQ ha0))) (fun r7 her7=>?_)
  refine Jk (Zz (X5 fun hg=>(dt (by first | omega | (simp; omega) | (simp at *; omega)))) (Zz (X5 fun hg=>(dt (by first | omega | (simp; omega) | (simp at *; omega)))) Ym)) ?_
  rfl
 ·rfl
noncomputable def S.Yv (a0:ZM) (p5:Bool):Bool :=
 bif p5 then (((((a0.Ua.length:Int)==0)&&(a0.W3==0))&&((a0.ZQ.length:Int)==0))&&(a0.ZS==(a0.Yj==2))) else (bif a0.Yj==3 then (S.Yu a0 (a0.Yj==3)) else (S.Yu a0 (a0.Yj==4)))
theorem KH (a0:ZM) (p5:Bool) (ha0:QX a0):M.Yv a0 p5=some (S.Yv a0 p5):=by
 have hM:=Zn
 unfold M.Yv S.Yv
 refine VZ (fun hb3=>?_) (fun hb3=>?_)
 ·rfl
 ·refine VZ (fun hb4=>?_) (fun hb4=>?_)
  ·exact KG a0 (a0.Yj==3) ha0
  ·exact KG a0 (a0.Yj==4) ha0
noncomputable def S.Ja (a0:ZM):Bool :=
 letS (S.XV a0.Z5 1 255) (fun r1=>letS (bif (!(!r1)) then S.XV a0.Qk 0 16777215 else default) (fun r2=>letS (bif (!((!r1)||(!r2))) then S.XV a0.Zgv 0 1000000 else default) (fun r3=>letS (bif (!(((!r1)||(!r2))||(!r3))) then S.QV a0 false true false else default) (fun r4=>bif (((!r1)||(!r2))||(!r3))||(!r4) then false else (bif a0.Yj==1 then (S.Yv a0 (a0.Yj==1)) else (S.Yv a0 (a0.Yj==2)))))))
theorem Zek (a0:ZM) (ha0:QX a0):M.Ja a0=some (S.Ja a0):=by
 have hM:=Zn
 unfold M.Ja S.Ja
 refine Xa (Je a0.Z5 1 255) (fun r1 her1=>?_)
 refine Xa (Vx fun hg=>(Je a0.Qk 0 16777215)) (fun r2 her2=>?_)
 refine Xa (Vx fun hg=>(Je a0.Zgv 0 1000000)) (fun r3 her3=>?_)
 refine Xa (Vx fun hg=>(GE a0 false true false ha0)) (fun r4 her4=>?_)
 refine VZ (fun hb1=>?_) (fun hb1=>?_)
 ·rfl
 ·refine VZ (fun hb2=>?_) (fun hb2=>?_)
  ·exact KH a0 (a0.Yj==1) ha0
  ·exact KH a0 (a0.Yj==2) ha0
noncomputable def S.Ve (a0:ZM) (i3:Nat):Option (Unit ⊕ Bool) :=
 letS (S.XV (a0.Ua.getD i3 default) 1 65535) (fun r5=>bif !r5 then (some (.inr false)) else none)
theorem ZeW (a0:ZM) (ha0:QX a0) (i0:Nat):loopM (M.Ve a0) (i0:Int)=some (runN (S.Ve a0) (.inl ()) i0 (a0.Ua.length - i0)):=by
 have hM:=Zn
 have hni3:a0.Ua.length≤maxLen:=(QX.Ua ha0)
 refine Xq (n:=a0.Ua.length) (fun i3 hi3=>?_) (fun m hm=>?_) i0
 ·unfold M.Ve S.Ve
  try simp only [Int.toNat_natCast]
  refine Yz (dt (by omega)) ?_
  refine Xy (Je (a0.Ua.getD i3 default) 1 65535) (fun r5 her5=>?_)
  refine Jk (Zz (dt (by omega)) (Zz (dt (by omega)) Ym)) ?_
  refine Yr (fun hb2=>?_) (fun hb2=>?_)
  ·exact X9
  ·exact Wi (by omega)
 ·unfold M.Ve
  try simp only [Int.toNat_natCast]
  exact YA (decide_eq_false (by omega)) rfl
noncomputable def S.V0 (a0:ZM):Bool :=
 letS (S.Y9 a0.Zh) (fun r1=>letS (bif (!(!r1)) then S.XV a0.UP 0 65535 else default) (fun r2=>bif ((!r1)||(!r2))||(decide ((a0.Ua.length:Int) > 64)) then false else (letS (runN (S.Ve a0) (.inl ()) 0 a0.Ua.length) (fun y6=>Sum.elim (fun _=>bif a0.XR==1 then (letS (bif ((((a0.Yj==0)&&(a0.Z5==0))&&(a0.Qk==0))&&(a0.UP==0)) then S.QV a0 false false false else default) (fun r9=>letS (bif (((((((a0.Yj==0)&&(a0.Z5==0))&&(a0.Qk==0))&&(a0.UP==0))&&r9)&&(!a0.ZS))&&((a0.ZQ.length:Int)==1)) then S.Qh a0.ZQ true else default) (fun r10=>(((((((a0.Yj==0)&&(a0.Z5==0))&&(a0.Qk==0))&&(a0.UP==0))&&r9)&&(!a0.ZS))&&((a0.ZQ.length:Int)==1))&&r10))) else (bif a0.XR==2 then (letS (S.Qu a0) (fun r11=>r11)) else (bif a0.XR==3 then (letS (S.YD a0) (fun r12=>r12)) else (bif a0.XR==4 then (letS (S.YS a0) (fun r13=>r13)) else (bif a0.XR==5 then (letS (S.Ja a0) (fun r14=>r14)) else false))))) (fun y8=>y8) y6))))
theorem Zhc (a0:ZM) (ha0:QX a0):M.V0 a0=some (S.V0 a0):=by
 have hM:=Zn
 unfold M.V0 S.V0
 refine Xa (Uj a0.Zh) (fun r1 her1=>?_)
 refine Xa (Vx fun hg=>(Je a0.UP 0 65535)) (fun r2 her2=>?_)
 refine VZ (fun hb1=>?_) (fun hb1=>?_)
 ·rfl
 ·refine Xa (ZeW a0 ha0 0) (fun y6 hey6=>?_)
  refine JA (fun _ hl=>?_) (fun y8 hly8=>?_)
  ·refine VZ (fun hb3=>?_) (fun hb3=>?_)
   ·refine Xa (Vx fun hg=>(GE a0 false false false ha0)) (fun r9 her9=>?_)
    refine Xa (Vx fun hg=>(Gr a0.ZQ true (QX.ZQ ha0))) (fun r10 her10=>?_)
    rfl
   ·refine VZ (fun hb4=>?_) (fun hb4=>?_)
    ·refine Xa (Zcv a0 ha0) (fun r11 her11=>?_)
     rfl
    ·refine VZ (fun hb5=>?_) (fun hb5=>?_)
     ·refine Xa (ZaC a0 ha0) (fun r12 her12=>?_)
      rfl
     ·refine VZ (fun hb6=>?_) (fun hb6=>?_)
      ·refine Xa (ZaZ a0 ha0) (fun r13 her13=>?_)
       rfl
      ·refine VZ (fun hb7=>?_) (fun hb7=>?_)
       ·refine Xa (Zek a0 ha0) (fun r14 her14=>?_)
        rfl
       ·rfl
  ·rfl
noncomputable def S.JF (a0:List ZM) (a1:Int) (i1:Nat):Option (Unit ⊕ Bool) :=
 letS (S.V0 (a0.getD i1 default)) (fun r3=>letS (bif ((!((!r3)||((a1 != 0)&&(((a0.getD i1 default).XR) != a1))))&&(decide ((i1:Int) > 0))) then S.Vo ((a0.getD (wr .i64 ((i1:Int) - 1)).toNat default).Zh) ((a0.getD i1 default).Zh) else default) (fun r4=>bif ((!r3)||((a1 != 0)&&(((a0.getD i1 default).XR) != a1)))||((decide ((i1:Int) > 0))&&(decide (r4 ≥ 0))) then (some (.inr false)) else none))
theorem ZeX (a0:List ZM) (a1:Int) (ha0:LL QX a0) (i0:Nat):loopM (M.JF a0 a1) (i0:Int)=some (runN (S.JF a0 a1) (.inl ()) i0 (a0.length - i0)):=by
 have hM:=Zn
 have hni1:a0.length≤maxLen:=ha0.1
 refine Xq (n:=a0.length) (fun i1 hi1=>?_) (fun m hm=>?_) i0
 ·unfold M.JF S.JF
  try simp only [Int.toNat_natCast]
  have hdi1:wr .i64 ((i1:Int) - 1)=(i1:Int) - 1:=ZjJ (by omega)
  refine Yz (dt (by omega)) ?_
  refine Xy (Zhc (a0.getD i1 default) (LL.getD ha0 QX.dflt i1)) (fun r3 her3=>?_)
  refine Xy (Vx fun hg=>(ZbQ ((a0.getD (wr .i64 ((i1:Int) - 1)).toNat default).Zh) ((a0.getD i1 default).Zh))) (fun r4 her4=>?_)
  refine Jk (Zz (dt (by omega)) (Zz (dt (by omega)) (Zz (X5 fun hg=>(dt (by first | omega | (simp; omega) | (simp at *; omega)))) (Zz (X5 fun hg=>(dt (by first | omega | (simp; omega) | (simp at *; omega)))) (Zz (X5 fun hg=>(dt (by first | omega | (simp; omega) | (simp at *; omega)))) (Zz (X5 fun hg=>(dt (by first | omega | (simp; omega) | (simp at *; omega)))) (Zz (X5 fun hg=>(dt (by first | omega | (simp; omega) | (simp at *; omega)))) (Zz (X5 fun hg=>(dt (by first | omega | (simp; omega) | (simp at *; omega)))) Ym)))))))) ?_
  refine Yr (fun hb1=>?_) (fun hb1=>?_)
  ·exact X9
  ·exact Wi (by omega)
 ·unfold M.JF
  try simp only [Int.toNat_natCast]
  exact YA (decide_eq_false (by omega)) rfl
noncomputable def S.Wt (a0:List ZM) (a1:Int):Bool :=
 letS (runN (S.JF a0 a1) (.inl ()) 0 a0.length) (fun y5=>Sum.elim (fun _=>true) (fun y7=>y7) y5)
theorem Zhd (a0:List ZM) (a1:Int) (ha0:LL QX a0):M.Wt a0 a1=some (S.Wt a0 a1):=by
 have hM:=Zn
 unfold M.Wt S.Wt
 refine Xa (ZeX a0 a1 ha0 0) (fun y5 hey5=>?_)
 refine JA (fun _ hl=>?_) (fun y7 hly7=>?_)
 ·rfl
 ·rfl
noncomputable def S.Yn (a0:ZL) (a1:Int):Bool :=
 letS (S.J3 a0.ZE) (fun r1=>(bitD .and .u32 a1 r1)==a0.Zm)
theorem ZaM (a0:ZL) (a1:Int) :M.Yn a0 a1=some (S.Yn a0 a1):=by
 have hM:=Zn
 unfold M.Yn S.Yn
 refine Xa (Zjg a0.ZE) (fun r1 her1=>?_)
 rfl
noncomputable def S.Z4 (a0:List VL) (a1:VL) (i1:Nat):Option (Unit ⊕ Int) :=
 bif ((a1.UQ==((a0.getD i1 default).UQ))&&((a1.ZP==((a0.getD i1 default).ZP))&&true)) then (some (.inr (i1:Int))) else none
theorem GS (a0:List VL) (a1:VL) (ha0:a0.length≤maxLen) (i0:Nat):loopM (M.Z4 a0 a1) (i0:Int)=some (runN (S.Z4 a0 a1) (.inl ()) i0 (a0.length - i0)):=by
 have hM:=Zn
 have hni1:a0.length≤maxLen:=ha0
 refine Xq (n:=a0.length) (fun i1 hi1=>?_) (fun m hm=>?_) i0
 ·unfold M.Z4 S.Z4
  try simp only [Int.toNat_natCast]
  refine Yz (dt (by omega)) ?_
  refine Jk (Zz (dt (by omega)) (Zz (dt (by omega)) Ym)) ?_
  refine Yr (fun hb1=>?_) (fun hb1=>?_)
  ·exact X9
  ·exact Wi (by omega)
 ·unfold M.Z4
  try simp only [Int.toNat_natCast]
  exact YA (decide_eq_false (by omega)) rfl
noncomputable def S.Z9 (a0:List VL) (a1:VL):Int :=
 letS (runN (S.Z4 a0 a1) (.inl ()) 0 a0.length) (fun y3=>Sum.elim (fun _=>-1) (fun y5=>y5) y3)
theorem Ko (a0:List VL) (a1:VL) (ha0:a0.length≤maxLen):M.Z9 a0 a1=some (S.Z9 a0 a1):=by
 have hM:=Zn
 unfold M.Z9 S.Z9
 refine Xa (GS a0 a1 ha0 0) (fun y3 hey3=>?_)
 refine JA (fun _ hl=>?_) (fun y5 hly5=>?_)
 ·rfl
 ·rfl
noncomputable def S.ZV (a0:List VL) (a1:VL):Bool :=
 letS (S.Z9 a0 a1) (fun r1=>decide (r1 ≥ 0))
theorem GU (a0:List VL) (a1:VL) (ha0:a0.length≤maxLen):M.ZV a0 a1=some (S.ZV a0 a1):=by
 have hM:=Zn
 unfold M.ZV S.ZV
 refine Xa (Ko a0 a1 ha0) (fun r1 her1=>?_)
 rfl
noncomputable def S.YT (a0:XL) (a1:Int) (a2:Int) (i1:Nat):Option (Unit ⊕ Int) :=
 letS (S.ZV ((a0.Yf.Xe.getD i1 default).ZW) (⟨a1,a2⟩:VL)) (fun r3=>bif r3 then (some (.inr (i1:Int))) else none)
theorem ZeY (a0:XL) (a1:Int) (a2:Int) (ha0:J8 a0) (i0:Nat):loopM (M.YT a0 a1 a2) (i0:Int)=some (runN (S.YT a0 a1 a2) (.inl ()) i0 (a0.Yf.Xe.length - i0)):=by
 have hM:=Zn
 have hni1:a0.Yf.Xe.length≤maxLen:=(VI.Xe (J8.Yf ha0)).1
 refine Xq (n:=a0.Yf.Xe.length) (fun i1 hi1=>?_) (fun m hm=>?_) i0
 ·unfold M.YT S.YT
  try simp only [Int.toNat_natCast]
  refine Yz (dt (by omega)) ?_
  refine Jk (Zz (dt (by omega)) (Zz (dt (by omega)) Ym)) ?_
  refine Xy (GU ((a0.Yf.Xe.getD i1 default).ZW) (⟨a1,a2⟩:VL) (U5.ZW (LL.getD (VI.Xe (J8.Yf ha0)) U5.dflt i1))) (fun r3 her3=>?_)
  refine Yr (fun hb1=>?_) (fun hb1=>?_)
  ·exact X9
  ·exact Wi (by omega)
 ·unfold M.YT
  try simp only [Int.toNat_natCast]
  exact YA (decide_eq_false (by omega)) rfl
noncomputable def S.Qd (a0:XL) (a1:Int) (a2:Int):Int :=
 letS (runN (S.YT a0 a1 a2) (.inl ()) 0 a0.Yf.Xe.length) (fun y4=>Sum.elim (fun _=>-1) (fun y6=>y6) y4)
theorem ZcH (a0:XL) (a1:Int) (a2:Int) (ha0:J8 a0):M.Qd a0 a1 a2=some (S.Qd a0 a1 a2):=by
 have hM:=Zn
 unfold M.Qd S.Qd
 refine Xa (ZeY a0 a1 a2 ha0 0) (fun y4 hey4=>?_)
 refine JA (fun _ hl=>?_) (fun y6 hly6=>?_)
 ·rfl
 ·rfl
noncomputable def S.XS (a0:List Int) (a1:Int) (i1:Nat):Option (Unit ⊕ Int) :=
 bif a1==(a0.getD i1 default) then (some (.inr (i1:Int))) else none
theorem Ri (a0:List Int) (a1:Int) (ha0:a0.length≤maxLen) (i0:Nat):loopM (M.XS a0 a1) (i0:Int)=some (runN (S.XS a0 a1) (.inl ()) i0 (a0.length - i0)):=by
 have hM:=Zn
 have hni1:a0.length≤maxLen:=ha0
 refine Xq (n:=a0.length) (fun i1 hi1=>?_) (fun m hm=>?_) i0
 ·unfold M.XS S.XS
  try simp only [Int.toNat_natCast]
  refine Yz (dt (by omega)) ?_
  refine Jk (Zz (dt (by omega)) (Zz (dt (by omega)) Ym)) ?_
  refine Yr (fun hb1=>?_) (fun hb1=>?_)
  ·exact X9
  ·exact Wi (by omega)
 ·unfold M.XS
  try simp only [Int.toNat_natCast]
  exact YA (decide_eq_false (by omega)) rfl
noncomputable def S.XQ (a0:List Int) (a1:Int):Int :=
 letS (runN (S.XS a0 a1) (.inl ()) 0 a0.length) (fun y3=>Sum.elim (fun _=>-1) (fun y5=>y5) y3)
theorem Ke (a0:List Int) (a1:Int) (ha0:a0.length≤maxLen):M.XQ a0 a1=some (S.XQ a0 a1):=by
 have hM:=Zn
 unfold M.XQ S.XQ
 refine Xa (Ri a0 a1 ha0 0) (fun y3 hey3=>?_)
 refine JA (fun _ hl=>?_) (fun y5 hly5=>?_)
 ·rfl
 ·rfl
noncomputable def S.VE (a0:XL) (a1:Int) (a2:Int):Int :=
 letS (S.Qd a0 a1 a2) (fun r1=>bif decide (r1 < 0) then (-1) else (letS (S.XQ a0.Yf.J0 r1) (fun r2=>r2)))
theorem Zjh (a0:XL) (a1:Int) (a2:Int) (ha0:J8 a0):M.VE a0 a1 a2=some (S.VE a0 a1 a2):=by
 have hM:=Zn
 unfold M.VE S.VE
 refine Xa (ZcH a0 a1 a2 ha0) (fun r1 her1=>?_)
 refine VZ (fun hb1=>?_) (fun hb1=>?_)
 ·rfl
 ·refine Xa (Ke a0.Yf.J0 r1 (VI.J0 (J8.Yf ha0))) (fun r2 her2=>?_)
  rfl
noncomputable def S.XH (a0:List Int) (a1:Int):Bool :=
 letS (S.XQ a0 a1) (fun r1=>decide (r1 ≥ 0))
theorem Rj (a0:List Int) (a1:Int) (ha0:a0.length≤maxLen):M.XH a0 a1=some (S.XH a0 a1):=by
 have hM:=Zn
 unfold M.XH S.XH
 refine Xa (Ke a0 a1 ha0) (fun r1 her1=>?_)
 rfl
noncomputable def S.Us (a0:XL) (a1:Int) (a2:Int):Bool :=
 letS (S.Qd a0 a1 a2) (fun r1=>bif decide (r1 < 0) then false else (letS (S.VE a0 a1 a2) (fun r2=>letS (bif (!(decide (r2 < 0))) then S.XH a0.Jx r2 else default) (fun r3=>(decide (r2 < 0))||(!r3)))))
theorem Zlo (a0:XL) (a1:Int) (a2:Int) (ha0:J8 a0):M.Us a0 a1 a2=some (S.Us a0 a1 a2):=by
 have hM:=Zn
 unfold M.Us S.Us
 refine Xa (ZcH a0 a1 a2 ha0) (fun r1 her1=>?_)
 refine VZ (fun hb1=>?_) (fun hb1=>?_)
 ·rfl
 ·refine Xa (Zjh a0 a1 a2 ha0) (fun r2 her2=>?_)
  refine Xa (Vx fun hg=>(Rj a0.Jx r2 (J8.Jx ha0))) (fun r3 her3=>?_)
  rfl
noncomputable def S.JV (a0:XL) (a1:Int) (a2:Int) (i1:Nat) (i3:Nat):Option (Unit ⊕ Int) :=
 bif ((((((a0.Yf.Xe.getD i1 default).ZW).getD i3 default).UQ)==a1)&&((((((a0.Yf.Xe.getD i1 default).ZW).getD i3 default).ZP)==a2)&&true)) then (some (.inr (i1:Int))) else none
theorem Zel (a0:XL) (a1:Int) (a2:Int) (i1:Nat) (ha0:J8 a0) (hi1:i1 < a0.Yf.Xe.length) (i0:Nat):loopM (M.JV a0 a1 a2 (i1:Int)) (i0:Int)=some (runN (S.JV a0 a1 a2 i1) (.inl ()) i0 (((a0.Yf.Xe.getD i1 default).ZW).length - i0)):=by
 have hM:=Zn
 have hni1:a0.Yf.Xe.length≤maxLen:=(VI.Xe (J8.Yf ha0)).1
 have hni3:((a0.Yf.Xe.getD i1 default).ZW).length≤maxLen:=(U5.ZW (LL.getD (VI.Xe (J8.Yf ha0)) U5.dflt i1))
 refine Xq (n:=((a0.Yf.Xe.getD i1 default).ZW).length) (fun i3 hi3=>?_) (fun m hm=>?_) i0
 ·unfold M.JV S.JV
  try simp only [Int.toNat_natCast]
  refine Jk (Zz (dt (by omega)) (Zz (dt (by omega)) Ym))  ?_
  refine Yz (dt (by omega)) ?_
  refine Jk (Zz (dt (by omega)) (Zz (dt (by omega)) (Zz (dt (by omega)) (Zz (dt (by omega)) Ym)))) ?_
  refine Yr (fun hb1=>?_) (fun hb1=>?_)
  ·exact X9
  ·exact Wi (by omega)
 ·unfold M.JV
  try simp only [Int.toNat_natCast]
  refine Jk (Zz (dt (by omega)) (Zz (dt (by omega)) Ym))  ?_
  exact YA (decide_eq_false (by omega)) rfl
noncomputable def S.JW (a0:XL) (a1:Int) (a2:Int) (i1:Nat):Option (Unit ⊕ Int) :=
 letS (runN (S.JV a0 a1 a2 i1) (.inl ()) 0 (((a0.Yf.Xe.getD i1 default).ZW).length)) (fun y5=>Sum.elim (fun _=>none) (fun y7=>some (.inr y7)) y5)
theorem Zem (a0:XL) (a1:Int) (a2:Int) (ha0:J8 a0) (i0:Nat):loopM (M.JW a0 a1 a2) (i0:Int)=some (runN (S.JW a0 a1 a2) (.inl ()) i0 (a0.Yf.Xe.length - i0)):=by
 have hM:=Zn
 have hni1:a0.Yf.Xe.length≤maxLen:=(VI.Xe (J8.Yf ha0)).1
 refine Xq (n:=a0.Yf.Xe.length) (fun i1 hi1=>?_) (fun m hm=>?_) i0
 ·unfold M.JW S.JW
  try simp only [Int.toNat_natCast]
  refine Yz (dt (by omega)) ?_
  refine Xy (Zel a0 a1 a2 i1 ha0 hi1 0) (fun y5 hey5=>?_)
  refine WG (fun _ hl=>?_) (fun y7 hly7=>?_)
  ·exact Wi (by omega)
  ·exact X9
 ·unfold M.JW
  try simp only [Int.toNat_natCast]
  exact YA (decide_eq_false (by omega)) rfl
noncomputable def S.J4 (a0:XL) (a1:Int) (a2:Int):Int :=
 letS (runN (S.JW a0 a1 a2) (.inl ()) 0 a0.Yf.Xe.length) (fun y8=>Sum.elim (fun _=>-1) (fun y10=>y10) y8)
theorem ZbS (a0:XL) (a1:Int) (a2:Int) (ha0:J8 a0):M.J4 a0 a1 a2=some (S.J4 a0 a1 a2):=by
 have hM:=Zn
 unfold M.J4 S.J4
 refine Xa (Zem a0 a1 a2 ha0 0) (fun y8 hey8=>?_)
 refine JA (fun _ hl=>?_) (fun y10 hly10=>?_)
 ·rfl
 ·rfl
noncomputable def S.Vf (a0:XL) (r1:Int) (i2:Nat):Option (Unit ⊕ Int) :=
 bif (decide (r1 ≥ 0))&&((a0.Yf.J0.getD i2 default)==r1) then (some (.inr (i2:Int))) else none
theorem ZfF (a0:XL) (r1:Int) (ha0:J8 a0) (i0:Nat):loopM (M.Vf a0 r1) (i0:Int)=some (runN (S.Vf a0 r1) (.inl ()) i0 (a0.Yf.J0.length - i0)):=by
 have hM:=Zn
 have hni2:a0.Yf.J0.length≤maxLen:=(VI.J0 (J8.Yf ha0))
 refine Xq (n:=a0.Yf.J0.length) (fun i2 hi2=>?_) (fun m hm=>?_) i0
 ·unfold M.Vf S.Vf
  try simp only [Int.toNat_natCast]
  refine Yz (dt (by omega)) ?_
  refine Jk (Zz (X5 fun hg=>(dt (by first | omega | (simp; omega) | (simp at *; omega)))) (Zz (X5 fun hg=>(dt (by first | omega | (simp; omega) | (simp at *; omega)))) Ym)) ?_
  refine Yr (fun hb1=>?_) (fun hb1=>?_)
  ·exact X9
  ·exact Wi (by omega)
 ·unfold M.Vf
  try simp only [Int.toNat_natCast]
  exact YA (decide_eq_false (by omega)) rfl
noncomputable def S.WY (a0:XL) (a1:Int) (a2:Int):Int :=
 letS (S.J4 a0 a1 a2) (fun r1=>letS (runN (S.Vf a0 r1) (.inl ()) 0 a0.Yf.J0.length) (fun y4=>Sum.elim (fun _=>-1) (fun y6=>y6) y4))
theorem Zid (a0:XL) (a1:Int) (a2:Int) (ha0:J8 a0):M.WY a0 a1 a2=some (S.WY a0 a1 a2):=by
 have hM:=Zn
 unfold M.WY S.WY
 refine Xa (ZbS a0 a1 a2 ha0) (fun r1 her1=>?_)
 refine Xa (ZfF a0 r1 ha0 0) (fun y4 hey4=>?_)
 refine JA (fun _ hl=>?_) (fun y6 hly6=>?_)
 ·rfl
 ·rfl
noncomputable def S.WM (a0:XL) (r2:Int) (i3:Nat):Option (Unit ⊕ Bool) :=
 bif (a0.Jx.getD i3 default)==r2 then (some (.inr false)) else none
theorem Zhe (a0:XL) (r2:Int) (ha0:J8 a0) (i0:Nat):loopM (M.WM a0 r2) (i0:Int)=some (runN (S.WM a0 r2) (.inl ()) i0 (a0.Jx.length - i0)):=by
 have hM:=Zn
 have hni3:a0.Jx.length≤maxLen:=(J8.Jx ha0)
 refine Xq (n:=a0.Jx.length) (fun i3 hi3=>?_) (fun m hm=>?_) i0
 ·unfold M.WM S.WM
  try simp only [Int.toNat_natCast]
  refine Yz (dt (by omega)) ?_
  refine Jk (Zz (dt (by omega)) (Zz (dt (by omega)) Ym)) ?_
  refine Yr (fun hb2=>?_) (fun hb2=>?_)
  ·exact X9
  ·exact Wi (by omega)
 ·unfold M.WM
  try simp only [Int.toNat_natCast]
  exact YA (decide_eq_false (by omega)) rfl
noncomputable def S.Gz (a0:XL) (a1:Int) (a2:Int):Bool :=
 letS (S.J4 a0 a1 a2) (fun r1=>bif decide (r1 < 0) then false else (letS (S.WY a0 a1 a2) (fun r2=>letS (runN (S.WM a0 r2) (.inl ()) 0 a0.Jx.length) (fun y5=>Sum.elim (fun _=>true) (fun y7=>y7) y5))))
theorem ZjZ (a0:XL) (a1:Int) (a2:Int) (ha0:J8 a0):M.Gz a0 a1 a2=some (S.Gz a0 a1 a2):=by
 have hM:=Zn
 unfold M.Gz S.Gz
 refine Xa (ZbS a0 a1 a2 ha0) (fun r1 her1=>?_)
 refine VZ (fun hb1=>?_) (fun hb1=>?_)
 ·rfl
 ·refine Xa (Zid a0 a1 a2 ha0) (fun r2 her2=>?_)
  refine Xa (Zhe a0 r2 ha0 0) (fun y5 hey5=>?_)
  refine JA (fun _ hl=>?_) (fun y7 hly7=>?_)
  ·rfl
  ·rfl
end Nv
