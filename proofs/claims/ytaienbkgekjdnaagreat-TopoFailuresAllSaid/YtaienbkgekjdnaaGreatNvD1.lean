/- The mirrors: what each function of the given program computes, in plain terms. -/
import Derived.Test.YtaienbkgekjdnaaGreatNvLibB
import Derived.Test.YtaienbkgekjdnaaGreatNvLibD
import Derived.Test.YtaienbkgekjdnaaGreatNvLibC
set_option maxRecDepth 100000
namespace Nv
open Go
structure Zx where
 ZH:ByteArray
 ZA:Int
 ZM:Int
 XI:Int
 RB:Bool
 X5:Bool
 Vb:Int
 RC:Int
 Ye:Bool
 VE:ByteArray
 YH:ByteArray
 R6:Int
 deriving Inhabited
def Zm (x:Zx):List D:=[.str x.ZH,.int .u32 x.ZA,.int .i64 x.ZM,.int .i64 x.XI,.bool x.RB,.bool x.X5,.int .i64 x.Vb,.int .i64 x.RC,.bool x.Ye,.str x.VE,.str x.YH,.int .i64 x.R6]
structure ZO where
 ZA:Int
 ZM:Int
 deriving Inhabited
def Z7 (x:ZO):List D:=[.int .u32 x.ZA,.int .i64 x.ZM]
structure Vy where
 ZdL:Bool
 Zp:ZO
 Zcp:Int
 Zcq:Int
 deriving Inhabited
def Vh (x:Vy):List D:=[.bool x.ZdL,.int .u32 x.Zp.ZA,.int .i64 x.Zp.ZM,.int .i64 x.Zcp,.int .i64 x.Zcq]
structure ZD where
 ZH:ByteArray
 Xv:List Vy
 deriving Inhabited
def Zu (x:ZD):List D:=[.str x.ZH,sL 5 Vh x.Xv]
structure Ub where
 ZdL:Bool
 QX:ByteArray
 Gd:Int
 W1:Int
 G9:Int
 Gl:Int
 Gm:Int
 deriving Inhabited
def Ug (x:Ub):List D:=[.bool x.ZdL,.str x.QX,.int .i64 x.Gd,.int .i64 x.W1,.int .i64 x.G9,.int .i64 x.Gl,.int .i64 x.Gm]
structure Xw where
 ZH:ByteArray
 Xj:List Ub
 deriving Inhabited
def ZN (x:Xw):List D:=[.str x.ZH,sL 7 Ug x.Xj]
structure Zck where
 ZA:Int
 GA:Int
 deriving Inhabited
def Zio (x:Zck):List D:=[.int .u32 x.ZA,.int .u32 x.GA]
structure Vc where
 GB:Int
 Ka:Int
 deriving Inhabited
def KO (x:Vc):List D:=[.int .i64 x.GB,.int .i64 x.Ka]
structure Kb where
 ZdL:Bool
 Yg:Int
 RM:Zck
 RN:Zck
 VF:Vc
 VG:Vc
 deriving Inhabited
def Gs (x:Kb):List D:=[.bool x.ZdL,.int .i64 x.Yg,.int .u32 x.RM.ZA,.int .u32 x.RM.GA,.int .u32 x.RN.ZA,.int .u32 x.RN.GA,.int .i64 x.VF.GB,.int .i64 x.VF.Ka,.int .i64 x.VG.GB,.int .i64 x.VG.Ka]
structure V2 where
 ZH:ByteArray
 Xv:List Kb
 deriving Inhabited
def Yr (x:V2):List D:=[.str x.ZH,sL 10 Gs x.Xv]
structure YX where
 J5:Int
 Qm:Int
 YA:Int
 Yg:Int
 QR:Int
 Qh:Int
 QX:ByteArray
 GB:Int
 Ka:Int
 deriving Inhabited
def Z2 (x:YX):List D:=[.int .i64 x.J5,.int .u32 x.Qm,.int .u32 x.YA,.int .i64 x.Yg,.int .i64 x.QR,.int .i64 x.Qh,.str x.QX,.int .u32 x.GB,.int .u32 x.Ka]
structure Yh where
 Zp:ZO
 Vu:Int
 Jj:ByteArray
 VJ:Bool
 Xd:Int
 Gd:Int
 deriving Inhabited
def ZS (x:Yh):List D:=[.int .u32 x.Zp.ZA,.int .i64 x.Zp.ZM,.int .u32 x.Vu,.str x.Jj,.bool x.VJ,.int .i64 x.Xd,.int .i64 x.Gd]
structure Wf where
 Vb:Int
 Zp:ZO
 deriving Inhabited
def Xg (x:Wf):List D:=[.int .i64 x.Vb,.int .u32 x.Zp.ZA,.int .i64 x.Zp.ZM]
structure YB where
 WU:Int
 KP:Int
 Gd:Int
 RO:ByteArray
 Kn:Int
 deriving Inhabited
def Zv (x:YB):List D:=[.int .i64 x.WU,.int .i64 x.KP,.int .i64 x.Gd,.str x.RO,.int .i64 x.Kn]
structure Wv where
 Vz:Bool
 Xd:Int
 ZF:List Wf
 Zs:List YB
 deriving Inhabited
def KQ (x:Wv):List D:=[.bool x.Vz,.int .i64 x.Xd,sL 3 Xg x.ZF,sL 5 Zv x.Zs]
structure QA where
 Vz:Bool
 Xd:Int
 VE:ByteArray
 YH:ByteArray
 Zs:List YB
 deriving Inhabited
def ZdM (x:QA):List D:=[.bool x.Vz,.int .i64 x.Xd,.str x.VE,.str x.YH,sL 5 Zv x.Zs]
structure VH where
 ZA:Int
 GC:Int
 VE:ByteArray
 YH:ByteArray
 deriving Inhabited
def Xq (x:VH):List D:=[.int .u32 x.ZA,.int .i64 x.GC,.str x.VE,.str x.YH]
structure Wg where
 Zp:ZO
 Znn:Bool
 deriving Inhabited
def Xh (x:Wg):List D:=[.int .u32 x.Zp.ZA,.int .i64 x.Zp.ZM,.bool x.Znn]
structure Wh where
 Zp:ZO
 fIf:ZO
 ZmF:Bool
 deriving Inhabited
def Xe (x:Wh):List D:=[.int .u32 x.Zp.ZA,.int .i64 x.Zp.ZM,.int .u32 x.fIf.ZA,.int .i64 x.fIf.ZM,.bool x.ZmF]
structure Xb where
 Vz:Bool
 XM:Int
 XN:Int
 Zl:List VH
 Zt:List ZO
 Zq:List Wg
 Zn:List Wh
 Zs:List YB
 deriving Inhabited
def U4 (x:Xb):List D:=[.bool x.Vz,.int .i64 x.XM,.int .i64 x.XN,sL 4 Xq x.Zl,sL 2 Z7 x.Zt,sL 3 Xh x.Zq,sL 5 Xe x.Zn,sL 5 Zv x.Zs]
structure Zf where
 ZH:ByteArray
 GC:Int
 Zc:List Zx
 Xi:List ZD
 Z9:List Xw
 XK:List V2
 Xf:List YX
 Zr:List Yh
 X5:Wv
 Ye:QA
 Z8:Xb
 deriving Inhabited
def ZB (x:Zf):List D:=[.str x.ZH,.int .i64 x.GC,sL 12 Zm x.Zc,sL 2 Zu x.Xi,sL 2 ZN x.Z9,sL 2 Yr x.XK,sL 9 Z2 x.Xf,sL 7 ZS x.Zr,.bool x.X5.Vz,.int .i64 x.X5.Xd,sL 3 Xg x.X5.ZF,sL 5 Zv x.X5.Zs,.bool x.Ye.Vz,.int .i64 x.Ye.Xd,.str x.Ye.VE,.str x.Ye.YH,sL 5 Zv x.Ye.Zs,.bool x.Z8.Vz,.int .i64 x.Z8.XM,.int .i64 x.Z8.XN,sL 4 Xq x.Z8.Zl,sL 2 Z7 x.Z8.Zt,sL 3 Xh x.Z8.Zq,sL 5 Xe x.Z8.Zn,sL 5 Zv x.Z8.Zs]
structure ZP where
 Zd:List Zf
 deriving Inhabited
def Yn (x:ZP):List D:=[sL 25 ZB x.Zd]
structure Ue where
 Zcl:Int
 Jj:Int
 deriving Inhabited
def XF (x:Ue):List D:=[.int .i64 x.Zcl,.int .i64 x.Jj]
structure Zk where
 Zp:ZO
 XI:Int
 Xt:List Ue
 deriving Inhabited
def Z0 (x:Zk):List D:=[.int .u32 x.Zp.ZA,.int .i64 x.Zp.ZM,.int .i64 x.XI,sL 2 XF x.Xt]
structure Qs where
 V3:List Zk
 Wr:List Int
 deriving Inhabited
def Zbz (x:Qs):List D:=[sL 4 Z0 x.V3,sL 1 (ci .i64) x.Wr]
structure W2 where
 Znr:ZP
 Uy:Qs
 RB:List Int
 deriving Inhabited
def Gt (x:W2):List D:=[sL 25 ZB x.Znr.Zd,sL 4 Z0 x.Uy.V3,sL 1 (ci .i64) x.Uy.Wr,sL 1 (ci .i64) x.RB]
structure Xc where
 RD:ZO
 ZjD:Int
 deriving Inhabited
def Xo (x:Xc):List D:=[.int .u32 x.RD.ZA,.int .i64 x.RD.ZM,.int .i64 x.ZjD]
def hdDom (x:Zk):List D:=[.int .u32 x.Zp.ZA,.int .i64 x.Zp.ZM,.int .i64 x.XI]
def topoKeyEq (a b:Xc):Bool:=(((a.RD.ZA==b.RD.ZA)&&((a.RD.ZM==b.RD.ZM)&&true))&&((a.ZjD==b.ZjD)&&true))
noncomputable def M.WB (a0:Zf) (p1:Int):Option (Int ⊕ (Unit ⊕ Bool)) :=
 bif decide (p1 < (a0.Xi.length:Int)) then (gd [decide (0≤p1),decide (p1 < (a0.Xi.length:Int))] (bif decide ((((a0.Xi.getD p1.toNat default).Xv).length:Int) > 20) then (some (.inr (.inr false))) else (some (.inl (wr .i64 (p1+1)))))) else (some (.inr (.inl ())))
noncomputable def M.WC (a0:Zf) (p6:Int):Option (Int ⊕ (Unit ⊕ Bool)) :=
 bif decide (p6 < (a0.Z9.length:Int)) then (gd [decide (0≤p6),decide (p6 < (a0.Z9.length:Int))] (bif decide ((((a0.Z9.getD p6.toNat default).Xj).length:Int) > 12) then (some (.inr (.inr false))) else (some (.inl (wr .i64 (p6+1)))))) else (some (.inr (.inl ())))
noncomputable def M.WD (a0:Zf) (p11:Int):Option (Int ⊕ (Unit ⊕ Bool)) :=
 bif decide (p11 < (a0.XK.length:Int)) then (gd [decide (0≤p11),decide (p11 < (a0.XK.length:Int))] (bif decide ((((a0.XK.getD p11.toNat default).Xv).length:Int) > 20) then (some (.inr (.inr false))) else (some (.inl (wr .i64 (p11+1)))))) else (some (.inr (.inl ())))
noncomputable def M.VW (a0:Zf):Option Bool :=
 bif (((((((((((((decide ((a0.Zc.length:Int) > 12))||(decide ((a0.Xi.length:Int) > 12)))||(decide ((a0.Z9.length:Int) > 12)))||(decide ((a0.XK.length:Int) > 12)))||(decide ((a0.Xf.length:Int) > 12)))||(decide ((a0.Zr.length:Int) > 20)))||(decide ((a0.X5.ZF.length:Int) > 8)))||(decide ((a0.X5.Zs.length:Int) > 8)))||(decide ((a0.Ye.Zs.length:Int) > 8)))||(decide ((a0.Z8.Zs.length:Int) > 8)))||(decide ((a0.Z8.Zl.length:Int) > 12)))||(decide ((a0.Z8.Zt.length:Int) > 12)))||(decide ((a0.Z8.Zq.length:Int) > 12)))||(decide ((a0.Z8.Zn.length:Int) > 12)) then (some false) else ((loopM (M.WB a0) 0).bind fun y3=>Sum.elim (fun _=>(loopM (M.WC a0) 0).bind fun y8=>Sum.elim (fun _=>(loopM (M.WD a0) 0).bind fun y13=>Sum.elim (fun _=>some true) (fun y15=>some y15) y13) (fun y10=>some y10) y8) (fun y5=>some y5) y3)
noncomputable def M.Y1 (a0:ZP) (p1:Int):Option (Int ⊕ (Unit ⊕ Bool)) :=
 bif decide (p1 < (a0.Zd.length:Int)) then ((M.VW (a0.Zd.getD p1.toNat default)).bind fun r3=>gd [decide (0≤p1),decide (p1 < (a0.Zd.length:Int))] (bif !r3 then (some (.inr (.inr false))) else (some (.inl (wr .i64 (p1+1)))))) else (some (.inr (.inl ())))
noncomputable def M.VA (a0:ZP):Option Bool :=
 bif decide ((a0.Zd.length:Int) > 9) then (some false) else ((loopM (M.Y1 a0) 0).bind fun y4=>Sum.elim (fun _=>some true) (fun y6=>some y6) y4)
noncomputable def M.VB (a0:Int):Option Bool :=
 some (((decide (a0 ≥ 97))&&(decide (a0≤122)))||((decide (a0 ≥ 65))&&(decide (a0≤90))))
noncomputable def M.Wi (a0:ByteArray) (p2:Int):Option (Int ⊕ (Unit ⊕ Bool)) :=
 bif decide (p2 < (a0.size:Int)) then (gd [decide (0≤p2),decide (p2 < (a0.size:Int))] ((M.VB (byteAt a0 p2)).bind fun r4=>bif (((((!r4)&&(!((decide ((byteAt a0 p2) ≥ 48))&&(decide ((byteAt a0 p2)≤57)))))&&((byteAt a0 p2) != 45))&&((byteAt a0 p2) != 95))&&((byteAt a0 p2) != 47))&&((byteAt a0 p2) != 46) then (some (.inr (.inr false))) else (some (.inl (wr .i64 (p2+1)))))) else (some (.inr (.inl ())))
noncomputable def M.Jo (a0:ByteArray):Option Bool :=
 (gc (!((decide ((a0.size:Int) < 1))||(decide ((a0.size:Int) > 15)))) (M.VB (byteAt a0 0))).bind fun r1=>gd [guardB (!((decide ((a0.size:Int) < 1))||(decide ((a0.size:Int) > 15)))) (decide (0≤0)),guardB (!((decide ((a0.size:Int) < 1))||(decide ((a0.size:Int) > 15)))) (decide (0 < (a0.size:Int)))] (bif ((decide ((a0.size:Int) < 1))||(decide ((a0.size:Int) > 15)))||(!r1) then (some false) else ((loopM (M.Wi a0) 1).bind fun y5=>Sum.elim (fun _=>some true) (fun y7=>some y7) y5))
noncomputable def M.ZC (a0:Int) (a1:Int) (a2:Int):Option Bool :=
 some ((decide (a1≤a0))&&(decide (a0≤a2)))
noncomputable def M.Kc (p1:Int × Int) (p3:Int):Option ((Int × Int) ⊕ Int) :=
 some (.inl (p3,wr .i64 (p1.2+1)))
noncomputable def M.UR (a0:Int) (p1:Int × Int):Option ((Int × Int) ⊕ Int) :=
 bif decide (p1.2 < 32) then (bif decide (p1.2 < a0) then (gd [decide (0≤(wr .u64 (wr .i64 (31 - p1.2))))] (M.Kc p1 (bitD .or .u32 p1.1 (wr .u32 (1*2 ^ min (wr .u64 (wr .i64 (31 - p1.2))).toNat 32))))) else (M.Kc p1 p1.1)) else (some (.inr p1.1))
noncomputable def M.VI (a0:Int):Option Int :=
 (loopM (M.UR a0) (0,0)).bind fun y4=>some y4
noncomputable def M.Q6 (a0:Int) (a1:Int):Option ZO :=
 (M.VI (if 0 > (if 32 < a1 then 32 else a1) then 0 else (if 32 < a1 then 32 else a1))).bind fun r1=>some (⟨bitD .and .u32 a0 r1,if 0 > (if 32 < a1 then 32 else a1) then 0 else (if 32 < a1 then 32 else a1)⟩:ZO)
noncomputable def M.WE (a0:ZO) (a1:Int):Option Bool :=
 (M.VI a0.ZM).bind fun r1=>some ((bitD .and .u32 a1 r1)==a0.ZA)
noncomputable def M.WI (a0:ZO) (a1:ZO):Option Bool :=
 (gc (decide (a0.ZM≤a1.ZM)) (M.WE a0 a1.ZA)).bind fun r1=>some ((decide (a0.ZM≤a1.ZM))&&r1)
noncomputable def M.Vi (a0:ZO) (a1:ZO):Option Bool :=
 (M.WI a0 a1).bind fun r1=>(gc (!r1) (M.WI a1 a0)).bind fun r2=>some (r1||r2)
noncomputable def M.Jk (a0:List Zx) (p1:Int) (p4:Int):Option (Int ⊕ (Unit ⊕ Int)) :=
 bif decide (p4 < p1) then (gd [decide (0≤p4),decide (p4 < (a0.length:Int))] (bif strEq ((a0.getD p4.toNat default).ZH) ((a0.getD p1.toNat default).ZH) then (some (.inr (.inr 4))) else (some (.inl (wr .i64 (p4+1)))))) else (some (.inr (.inl ())))
noncomputable def M.Qk (a0:List Zx) (p1:Int) (p14:Int):Option (Int ⊕ (Unit ⊕ Int)) :=
 bif decide (p14 < p1) then ((gc ((((a0.getD p1.toNat default).ZM) != 0)&&(((a0.getD p14.toNat default).ZM) != 0)) (M.Q6 ((a0.getD p1.toNat default).ZA) ((a0.getD p1.toNat default).ZM))).bind fun r16=>(gc ((((a0.getD p1.toNat default).ZM) != 0)&&(((a0.getD p14.toNat default).ZM) != 0)) (M.Q6 ((a0.getD p14.toNat default).ZA) ((a0.getD p14.toNat default).ZM))).bind fun r17=>(gc ((((a0.getD p1.toNat default).ZM) != 0)&&(((a0.getD p14.toNat default).ZM) != 0)) (M.Vi r16 r17)).bind fun r18=>gd [guardB (((a0.getD p1.toNat default).ZM) != 0) (decide (0≤p14)),guardB (((a0.getD p1.toNat default).ZM) != 0) (decide (p14 < (a0.length:Int))),guardB ((((a0.getD p1.toNat default).ZM) != 0)&&(((a0.getD p14.toNat default).ZM) != 0)) (decide (0≤p14)),guardB ((((a0.getD p1.toNat default).ZM) != 0)&&(((a0.getD p14.toNat default).ZM) != 0)) (decide (p14 < (a0.length:Int))),guardB ((((a0.getD p1.toNat default).ZM) != 0)&&(((a0.getD p14.toNat default).ZM) != 0)) (decide (0≤p14)),guardB ((((a0.getD p1.toNat default).ZM) != 0)&&(((a0.getD p14.toNat default).ZM) != 0)) (decide (p14 < (a0.length:Int)))] (bif ((((a0.getD p1.toNat default).ZM) != 0)&&(((a0.getD p14.toNat default).ZM) != 0))&&r18 then (some (.inr (.inr 6))) else (some (.inl (wr .i64 (p14+1)))))) else (some (.inr (.inl ())))
noncomputable def M.QH (a0:List Zx) (p1:Int):Option (Int ⊕ (Unit ⊕ Int)) :=
 bif decide (p1 < (a0.length:Int)) then (gd [decide (0≤p1),decide (p1 < (a0.length:Int))] ((M.Jo ((a0.getD p1.toNat default).ZH)).bind fun r3=>bif !r3 then (some (.inr (.inr 3))) else ((loopM (M.Jk a0 p1) 0).bind fun y6=>Sum.elim (fun _=>(M.ZC ((a0.getD p1.toNat default).ZM) 0 32).bind fun r9=>(gc (!(!r9)) (M.ZC ((a0.getD p1.toNat default).XI) 0 4094)).bind fun r10=>(gc (!((!r9)||(!r10))) (M.ZC ((a0.getD p1.toNat default).R6) 0 2)).bind fun r11=>bif ((!r9)||(!r10))||(!r11) then (some (.inr (.inr 1))) else (bif ((((a0.getD p1.toNat default).ZM)==0)&&(((((((((a0.getD p1.toNat default).ZA) != 0)||(((a0.getD p1.toNat default).XI) != 0))||(((a0.getD p1.toNat default).R6) != 0))||((a0.getD p1.toNat default).X5))||((a0.getD p1.toNat default).Ye))||(!strEq ((a0.getD p1.toNat default).VE) (⟨#[]⟩:ByteArray)))||(!strEq ((a0.getD p1.toNat default).YH) (⟨#[]⟩:ByteArray))))||((((a0.getD p1.toNat default).ZM) != 0)&&(((a0.getD p1.toNat default).ZA)==0)) then (some (.inr (.inr 1))) else ((gc ((a0.getD p1.toNat default).X5) (M.ZC ((a0.getD p1.toNat default).Vb) 0 255)).bind fun r12=>(gc (((a0.getD p1.toNat default).X5) && !(!r12)) (M.ZC ((a0.getD p1.toNat default).RC) 1 65535)).bind fun r13=>bif (((a0.getD p1.toNat default).X5)&&((!r12)||(!r13)))||((!((a0.getD p1.toNat default).X5))&&((((a0.getD p1.toNat default).Vb) != 0)||(((a0.getD p1.toNat default).RC) != 0))) then (some (.inr (.inr 1))) else ((loopM (M.Qk a0 p1) 0).bind fun y19=>Sum.elim (fun _=>some (.inl (wr .i64 (p1+1)))) (fun y21=>some (.inr (.inr y21))) y19)))) (fun y8=>some (.inr (.inr y8))) y6))) else (some (.inr (.inl ())))
noncomputable def M.Js (a0:List Zx):Option Int :=
 bif decide ((a0.length:Int) > 8) then (some 7) else ((loopM (M.QH a0) 0).bind fun y22=>Sum.elim (fun _=>some 0) (fun y24=>some y24) y22)
noncomputable def M.YU (a0:ZO):Option Bool :=
 (gc ((decide (a0.ZM ≥ 0))&&(decide (a0.ZM≤32))) (M.VI a0.ZM)).bind fun r1=>some (((decide (a0.ZM ≥ 0))&&(decide (a0.ZM≤32)))&&((bitD .andNot .u32 a0.ZA r1)==0))
noncomputable def M.Qu (a0:Vy):Option Bool :=
 (M.YU a0.Zp).bind fun r1=>some (((r1&&(decide (a0.Zp.ZM≤a0.Zcp)))&&(decide (a0.Zcp≤a0.Zcq)))&&(decide (a0.Zcq≤32)))
noncomputable def M.QU (a0:List ZD) (p1:Int) (p4:Int):Option (Int ⊕ (Unit ⊕ Int)) :=
 bif decide (p4 < p1) then (gd [decide (0≤p4),decide (p4 < (a0.length:Int)),decide (0≤p1),decide (p1 < (a0.length:Int))] (bif strEq ((a0.getD p4.toNat default).ZH) ((a0.getD p1.toNat default).ZH) then (some (.inr (.inr 4))) else (some (.inl (wr .i64 (p4+1)))))) else (some (.inr (.inl ())))
noncomputable def M.Qn (a0:List ZD) (p1:Int) (p9:Int):Option (Int ⊕ (Unit ⊕ Int)) :=
 gd [decide (0≤p1),decide (p1 < (a0.length:Int))] (bif decide (p9 < (((a0.getD p1.toNat default).Xv).length:Int)) then ((M.Qu (((a0.getD p1.toNat default).Xv).getD p9.toNat default)).bind fun r11=>gd [decide (0≤p1),decide (p1 < (a0.length:Int)),decide (0≤p9),decide (p9 < (((a0.getD p1.toNat default).Xv).length:Int))] (bif !r11 then (some (.inr (.inr 1))) else (some (.inl (wr .i64 (p9+1)))))) else (some (.inr (.inl ()))))
noncomputable def M.Qo (a0:List ZD) (p1:Int):Option (Int ⊕ (Unit ⊕ Int)) :=
 bif decide (p1 < (a0.length:Int)) then ((M.Jo ((a0.getD p1.toNat default).ZH)).bind fun r3=>gd [decide (0≤p1),decide (p1 < (a0.length:Int))] (bif !r3 then (some (.inr (.inr 3))) else ((loopM (M.QU a0 p1) 0).bind fun y6=>Sum.elim (fun _=>gd [decide (0≤p1),decide (p1 < (a0.length:Int))] (bif (((a0.getD p1.toNat default).Xv).length:Int)==0 then (some (.inr (.inr 1))) else (gd [decide (0≤p1),decide (p1 < (a0.length:Int))] (bif decide ((((a0.getD p1.toNat default).Xv).length:Int) > 16) then (some (.inr (.inr 7))) else ((loopM (M.Qn a0 p1) 0).bind fun y12=>Sum.elim (fun _=>some (.inl (wr .i64 (p1+1)))) (fun y14=>some (.inr (.inr y14))) y12))))) (fun y8=>some (.inr (.inr y8))) y6))) else (some (.inr (.inl ())))
noncomputable def M.QY (a0:List ZD):Option Int :=
 bif decide ((a0.length:Int) > 8) then (some 7) else ((loopM (M.Qo a0) 0).bind fun y15=>Sum.elim (fun _=>some 0) (fun y17=>some y17) y15)
noncomputable def M.JN (a0:Zf) (a1:ByteArray) (p1:Int):Option (Int ⊕ (Unit ⊕ Int)) :=
 bif decide (p1 < (a0.Xi.length:Int)) then (gd [decide (0≤p1),decide (p1 < (a0.Xi.length:Int))] (bif strEq ((a0.Xi.getD p1.toNat default).ZH) a1 then (some (.inr (.inr p1))) else (some (.inl (wr .i64 (p1+1)))))) else (some (.inr (.inl ())))
noncomputable def M.QB (a0:Zf) (a1:ByteArray):Option Int :=
 (loopM (M.JN a0 a1) 0).bind fun y3=>Sum.elim (fun _=>some (-1)) (fun y5=>some y5) y3
noncomputable def M.JE (a0:Zf) (p1:Int) (p4:Int):Option (Int ⊕ (Unit ⊕ Int)) :=
 bif decide (p4 < p1) then (gd [decide (0≤p4),decide (p4 < (a0.Z9.length:Int)),decide (0≤p1),decide (p1 < (a0.Z9.length:Int))] (bif strEq ((a0.Z9.getD p4.toNat default).ZH) ((a0.Z9.getD p1.toNat default).ZH) then (some (.inr (.inr 4))) else (some (.inl (wr .i64 (p4+1)))))) else (some (.inr (.inl ())))
noncomputable def M.Q7 (a0:Zf) (p1:Int) (p9:Int):Option (Int ⊕ (Unit ⊕ Int)) :=
 gd [decide (0≤p1),decide (p1 < (a0.Z9.length:Int))] (bif decide (p9 < (((a0.Z9.getD p1.toNat default).Xj).length:Int)) then (gd [decide (0≤p1),decide (p1 < (a0.Z9.length:Int)),decide (0≤p9),decide (p9 < (((a0.Z9.getD p1.toNat default).Xj).length:Int))] ((gc (!strEq ((((a0.Z9.getD p1.toNat default).Xj).getD p9.toNat default).QX) (⟨#[]⟩:ByteArray)) (M.QB a0 ((((a0.Z9.getD p1.toNat default).Xj).getD p9.toNat default).QX))).bind fun r11=>bif (!strEq ((((a0.Z9.getD p1.toNat default).Xj).getD p9.toNat default).QX) (⟨#[]⟩:ByteArray))&&(decide (r11 < 0)) then (some (.inr (.inr 5))) else ((M.ZC ((((a0.Z9.getD p1.toNat default).Xj).getD p9.toNat default).Gd) (-1) 65535).bind fun r12=>(gc (!(!r12)) (M.ZC ((((a0.Z9.getD p1.toNat default).Xj).getD p9.toNat default).G9) (-1) 65535)).bind fun r13=>(gc (!((!r12)||(!r13))) (M.ZC ((((a0.Z9.getD p1.toNat default).Xj).getD p9.toNat default).W1) (-1) 16777215)).bind fun r14=>(gc (!(((!r12)||(!r13))||(!r14))) (M.ZC ((((a0.Z9.getD p1.toNat default).Xj).getD p9.toNat default).Gl) (-1) 1000000)).bind fun r15=>(gc (!((((!r12)||(!r13))||(!r14))||(!r15))) (M.ZC ((((a0.Z9.getD p1.toNat default).Xj).getD p9.toNat default).Gm) 0 8)).bind fun r16=>bif ((((!r12)||(!r13))||(!r14))||(!r15))||(!r16) then (some (.inr (.inr 1))) else (some (.inl (wr .i64 (p9+1))))))) else (some (.inr (.inl ()))))
noncomputable def M.Q8 (a0:Zf) (p1:Int):Option (Int ⊕ (Unit ⊕ Int)) :=
 bif decide (p1 < (a0.Z9.length:Int)) then ((M.Jo ((a0.Z9.getD p1.toNat default).ZH)).bind fun r3=>gd [decide (0≤p1),decide (p1 < (a0.Z9.length:Int))] (bif !r3 then (some (.inr (.inr 3))) else ((loopM (M.JE a0 p1) 0).bind fun y6=>Sum.elim (fun _=>gd [decide (0≤p1),decide (p1 < (a0.Z9.length:Int))] (bif (((a0.Z9.getD p1.toNat default).Xj).length:Int)==0 then (some (.inr (.inr 1))) else (gd [decide (0≤p1),decide (p1 < (a0.Z9.length:Int))] (bif decide ((((a0.Z9.getD p1.toNat default).Xj).length:Int) > 8) then (some (.inr (.inr 7))) else ((loopM (M.Q7 a0 p1) 0).bind fun y17=>Sum.elim (fun _=>some (.inl (wr .i64 (p1+1)))) (fun y19=>some (.inr (.inr y19))) y17))))) (fun y8=>some (.inr (.inr y8))) y6))) else (some (.inr (.inl ())))
noncomputable def M.JR (a0:Zf):Option Int :=
 bif decide ((a0.Z9.length:Int) > 8) then (some 7) else ((loopM (M.Q8 a0) 0).bind fun y20=>Sum.elim (fun _=>some 0) (fun y22=>some y22) y20)
noncomputable def M.Wj (a0:Vc):Option Bool :=
 some (((decide (0≤a0.GB))&&(decide (a0.GB≤a0.Ka)))&&(decide (a0.Ka≤65535)))
noncomputable def M.U2 (a0:Vc):Option Bool :=
 some ((a0.GB==0)&&((a0.Ka==65535)&&true))
noncomputable def M.Vd (a0:Kb):Option Bool :=
 (M.ZC a0.Yg (-1) 255).bind fun r1=>(gc (!(((!r1)||((bitD .and .u32 a0.RM.ZA a0.RM.GA) != 0))||((bitD .and .u32 a0.RN.ZA a0.RN.GA) != 0))) (M.Wj a0.VF)).bind fun r2=>(gc (!((((!r1)||((bitD .and .u32 a0.RM.ZA a0.RM.GA) != 0))||((bitD .and .u32 a0.RN.ZA a0.RN.GA) != 0))||(!r2))) (M.Wj a0.VG)).bind fun r3=>bif ((((!r1)||((bitD .and .u32 a0.RM.ZA a0.RM.GA) != 0))||((bitD .and .u32 a0.RN.ZA a0.RN.GA) != 0))||(!r2))||(!r3) then (some false) else ((gc (!((a0.Yg==6)||(a0.Yg==17))) (M.U2 a0.VF)).bind fun r4=>(gc ((!((a0.Yg==6)||(a0.Yg==17)))&&r4) (M.U2 a0.VG)).bind fun r5=>some (((a0.Yg==6)||(a0.Yg==17))||(r4&&r5)))
noncomputable def M.QV (a0:List V2) (p1:Int) (p4:Int):Option (Int ⊕ (Unit ⊕ Int)) :=
 bif decide (p4 < p1) then (gd [decide (0≤p4),decide (p4 < (a0.length:Int)),decide (0≤p1),decide (p1 < (a0.length:Int))] (bif strEq ((a0.getD p4.toNat default).ZH) ((a0.getD p1.toNat default).ZH) then (some (.inr (.inr 4))) else (some (.inl (wr .i64 (p4+1)))))) else (some (.inr (.inl ())))
noncomputable def M.Qp (a0:List V2) (p1:Int) (p9:Int):Option (Int ⊕ (Unit ⊕ Int)) :=
 gd [decide (0≤p1),decide (p1 < (a0.length:Int))] (bif decide (p9 < (((a0.getD p1.toNat default).Xv).length:Int)) then ((M.Vd (((a0.getD p1.toNat default).Xv).getD p9.toNat default)).bind fun r11=>gd [decide (0≤p1),decide (p1 < (a0.length:Int)),decide (0≤p9),decide (p9 < (((a0.getD p1.toNat default).Xv).length:Int))] (bif !r11 then (some (.inr (.inr 1))) else (some (.inl (wr .i64 (p9+1)))))) else (some (.inr (.inl ()))))
noncomputable def M.Qq (a0:List V2) (p1:Int):Option (Int ⊕ (Unit ⊕ Int)) :=
 bif decide (p1 < (a0.length:Int)) then ((M.Jo ((a0.getD p1.toNat default).ZH)).bind fun r3=>gd [decide (0≤p1),decide (p1 < (a0.length:Int))] (bif !r3 then (some (.inr (.inr 3))) else ((loopM (M.QV a0 p1) 0).bind fun y6=>Sum.elim (fun _=>gd [decide (0≤p1),decide (p1 < (a0.length:Int))] (bif (((a0.getD p1.toNat default).Xv).length:Int)==0 then (some (.inr (.inr 1))) else (gd [decide (0≤p1),decide (p1 < (a0.length:Int))] (bif decide ((((a0.getD p1.toNat default).Xv).length:Int) > 16) then (some (.inr (.inr 7))) else ((loopM (M.Qp a0 p1) 0).bind fun y12=>Sum.elim (fun _=>some (.inl (wr .i64 (p1+1)))) (fun y14=>some (.inr (.inr y14))) y12))))) (fun y8=>some (.inr (.inr y8))) y6))) else (some (.inr (.inl ())))
noncomputable def M.QZ (a0:List V2):Option Int :=
 bif decide ((a0.length:Int) > 8) then (some 7) else ((loopM (M.Qq a0) 0).bind fun y15=>Sum.elim (fun _=>some 0) (fun y17=>some y17) y15)
noncomputable def M.Uk (a0:Zf) (a1:ByteArray) (p1:Int):Option (Int ⊕ (Unit ⊕ Int)) :=
 bif decide (p1 < (a0.XK.length:Int)) then (gd [decide (0≤p1),decide (p1 < (a0.XK.length:Int))] (bif strEq ((a0.XK.getD p1.toNat default).ZH) a1 then (some (.inr (.inr p1))) else (some (.inl (wr .i64 (p1+1)))))) else (some (.inr (.inl ())))
noncomputable def M.Ul (a0:Zf) (a1:ByteArray):Option Int :=
 (loopM (M.Uk a0 a1) 0).bind fun y3=>Sum.elim (fun _=>some (-1)) (fun y5=>some y5) y3
noncomputable def M.X8 (a0:Zf) (p1:Int) (p3:Bool):Option (Int ⊕ (Unit ⊕ Int)) :=
 bif !p3 then (some (.inr (.inr 1))) else ((gc (((a0.Xf.getD p1.toNat default).J5)==2) (M.Ul a0 ((a0.Xf.getD p1.toNat default).QX))).bind fun r4=>bif (((a0.Xf.getD p1.toNat default).J5)==2)&&(decide (r4 < 0)) then (some (.inr (.inr 5))) else (some (.inl (wr .i64 (p1+1)))))
noncomputable def M.Y2 (a0:Zf) (p1:Int):Option (Int ⊕ (Unit ⊕ Int)) :=
 bif decide (p1 < (a0.Xf.length:Int)) then (gd [decide (0≤p1),decide (p1 < (a0.Xf.length:Int))] (bif ((a0.Xf.getD p1.toNat default).J5)==1 then (M.X8 a0 p1 (((((a0.Xf.getD p1.toNat default).Qm) != 0)&&(((a0.Xf.getD p1.toNat default).YA) != 0))&&((((a0.Xf.getD p1.toNat default).J5)==((a0.Xf.getD p1.toNat default).J5))&&((((a0.Xf.getD p1.toNat default).Qm)==((a0.Xf.getD p1.toNat default).Qm))&&((((a0.Xf.getD p1.toNat default).YA)==((a0.Xf.getD p1.toNat default).YA))&&((((a0.Xf.getD p1.toNat default).Yg)==0)&&((((a0.Xf.getD p1.toNat default).QR)==0)&&((((a0.Xf.getD p1.toNat default).Qh)==0)&&(strEq ((a0.Xf.getD p1.toNat default).QX) (⟨#[]⟩:ByteArray)&&((((a0.Xf.getD p1.toNat default).GB)==0)&&((((a0.Xf.getD p1.toNat default).Ka)==0)&&true))))))))))) else (bif ((a0.Xf.getD p1.toNat default).J5)==2 then (M.X8 a0 p1 ((((((a0.Xf.getD p1.toNat default).GB) != 0)&&(decide (((a0.Xf.getD p1.toNat default).GB)≤((a0.Xf.getD p1.toNat default).Ka))))&&(decide ((wr .u32 (((a0.Xf.getD p1.toNat default).Ka) - ((a0.Xf.getD p1.toNat default).GB))) < 8)))&&((((a0.Xf.getD p1.toNat default).J5)==((a0.Xf.getD p1.toNat default).J5))&&((((a0.Xf.getD p1.toNat default).Qm)==0)&&((((a0.Xf.getD p1.toNat default).YA)==0)&&((((a0.Xf.getD p1.toNat default).Yg)==0)&&((((a0.Xf.getD p1.toNat default).QR)==0)&&((((a0.Xf.getD p1.toNat default).Qh)==0)&&(strEq ((a0.Xf.getD p1.toNat default).QX) ((a0.Xf.getD p1.toNat default).QX)&&((((a0.Xf.getD p1.toNat default).GB)==((a0.Xf.getD p1.toNat default).GB))&&((((a0.Xf.getD p1.toNat default).Ka)==((a0.Xf.getD p1.toNat default).Ka))&&true))))))))))) else (bif ((a0.Xf.getD p1.toNat default).J5)==3 then ((gc (((((a0.Xf.getD p1.toNat default).Qm) != 0)&&(((a0.Xf.getD p1.toNat default).YA) != 0))&&((((a0.Xf.getD p1.toNat default).Yg)==6)||(((a0.Xf.getD p1.toNat default).Yg)==17))) (M.ZC ((a0.Xf.getD p1.toNat default).QR) 0 65535)).bind fun r5=>(gc ((((((a0.Xf.getD p1.toNat default).Qm) != 0)&&(((a0.Xf.getD p1.toNat default).YA) != 0))&&((((a0.Xf.getD p1.toNat default).Yg)==6)||(((a0.Xf.getD p1.toNat default).Yg)==17)))&&r5) (M.ZC ((a0.Xf.getD p1.toNat default).Qh) 0 65535)).bind fun r6=>M.X8 a0 p1 ((((((((((a0.Xf.getD p1.toNat default).Qm) != 0)&&(((a0.Xf.getD p1.toNat default).YA) != 0))&&((((a0.Xf.getD p1.toNat default).Yg)==6)||(((a0.Xf.getD p1.toNat default).Yg)==17)))&&r5)&&r6)&&(strEq ((a0.Xf.getD p1.toNat default).QX) (⟨#[]⟩:ByteArray)))&&(((a0.Xf.getD p1.toNat default).GB)==0))&&(((a0.Xf.getD p1.toNat default).Ka)==0))) else (M.X8 a0 p1 false))))) else (some (.inr (.inl ())))
noncomputable def M.QC (a0:Zf):Option Int :=
 bif decide ((a0.Xf.length:Int) > 8) then (some 7) else ((loopM (M.Y2 a0) 0).bind fun y7=>Sum.elim (fun _=>some 0) (fun y9=>some y9) y7)
noncomputable def M.VR (a0:Zf) (p1:Int):Option (Int ⊕ (Unit ⊕ Int)) :=
 bif decide (p1 < (a0.Zc.length:Int)) then (gd [decide (0≤p1),decide (p1 < (a0.Zc.length:Int))] ((gc (!strEq ((a0.Zc.getD p1.toNat default).VE) (⟨#[]⟩:ByteArray)) (M.Ul a0 ((a0.Zc.getD p1.toNat default).VE))).bind fun r3=>(gc ((!((!strEq ((a0.Zc.getD p1.toNat default).VE) (⟨#[]⟩:ByteArray))&&(decide (r3 < 0))))&&(!strEq ((a0.Zc.getD p1.toNat default).YH) (⟨#[]⟩:ByteArray))) (M.Ul a0 ((a0.Zc.getD p1.toNat default).YH))).bind fun r4=>bif ((!strEq ((a0.Zc.getD p1.toNat default).VE) (⟨#[]⟩:ByteArray))&&(decide (r3 < 0)))||((!strEq ((a0.Zc.getD p1.toNat default).YH) (⟨#[]⟩:ByteArray))&&(decide (r4 < 0))) then (some (.inr (.inr 5))) else (some (.inl (wr .i64 (p1+1)))))) else (some (.inr (.inl ())))
noncomputable def M.Wk (a0:Zf):Option Int :=
 (loopM (M.VR a0) 0).bind fun y5=>Sum.elim (fun _=>some 0) (fun y7=>some y7) y5
noncomputable def M.VS (a0:Zf) (a1:Int) (p1:Int):Option (Int ⊕ (Unit ⊕ Int)) :=
 bif decide (p1 < (a0.Zc.length:Int)) then (gd [decide (0≤p1),decide (p1 < (a0.Zc.length:Int)),guardB (((a0.Zc.getD p1.toNat default).ZM) != 0) (decide (0≤p1)),guardB (((a0.Zc.getD p1.toNat default).ZM) != 0) (decide (p1 < (a0.Zc.length:Int)))] (bif (((a0.Zc.getD p1.toNat default).ZM) != 0)&&(((a0.Zc.getD p1.toNat default).ZA)==a1) then (some (.inr (.inr p1))) else (some (.inl (wr .i64 (p1+1)))))) else (some (.inr (.inl ())))
noncomputable def M.Q9 (a0:Zf) (a1:Int):Option Int :=
 (loopM (M.VS a0 a1) 0).bind fun y3=>Sum.elim (fun _=>some (-1)) (fun y5=>some y5) y3
noncomputable def M.JF (a0:Zf) (a1:ByteArray) (p1:Int):Option (Int ⊕ (Unit ⊕ Int)) :=
 bif decide (p1 < (a0.Zc.length:Int)) then (gd [decide (0≤p1),decide (p1 < (a0.Zc.length:Int))] (bif strEq ((a0.Zc.getD p1.toNat default).ZH) a1 then (some (.inr (.inr p1))) else (some (.inl (wr .i64 (p1+1)))))) else (some (.inr (.inl ())))
noncomputable def M.JS (a0:Zf) (a1:ByteArray):Option Int :=
 (loopM (M.JF a0 a1) 0).bind fun y3=>Sum.elim (fun _=>some (-1)) (fun y5=>some y5) y3
noncomputable def M.Jt (a0:Zf) (p1:Int) (p11:Int):Option (Int ⊕ (Unit ⊕ Int)) :=
 bif decide (p11 < p1) then (gd [decide (0≤p11),decide (p11 < (a0.Zr.length:Int)),guardB (((((a0.Zr.getD p11.toNat default).Zp).ZA)==(((a0.Zr.getD p1.toNat default).Zp).ZA))&&(((((a0.Zr.getD p11.toNat default).Zp).ZM)==(((a0.Zr.getD p1.toNat default).Zp).ZM))&&true)) (decide (0≤p11)),guardB (((((a0.Zr.getD p11.toNat default).Zp).ZA)==(((a0.Zr.getD p1.toNat default).Zp).ZA))&&(((((a0.Zr.getD p11.toNat default).Zp).ZM)==(((a0.Zr.getD p1.toNat default).Zp).ZM))&&true)) (decide (p11 < (a0.Zr.length:Int)))] (bif (((((a0.Zr.getD p11.toNat default).Zp).ZA)==(((a0.Zr.getD p1.toNat default).Zp).ZA))&&(((((a0.Zr.getD p11.toNat default).Zp).ZM)==(((a0.Zr.getD p1.toNat default).Zp).ZM))&&true))&&(((a0.Zr.getD p11.toNat default).Xd)==((a0.Zr.getD p1.toNat default).Xd)) then (some (.inr (.inr 6))) else (some (.inl (wr .i64 (p11+1)))))) else (some (.inr (.inl ())))
noncomputable def M.Ju (a0:Zf) (p1:Int) (_p10:Unit):Option (Int ⊕ (Unit ⊕ Int)) :=
 (loopM (M.Jt a0 p1) 0).bind fun y13=>Sum.elim (fun _=>some (.inl (wr .i64 (p1+1)))) (fun y15=>some (.inr (.inr y15))) y13
noncomputable def M.Jv (a0:Zf) (p1:Int) (p5:Int):Option (Int ⊕ (Unit ⊕ Int)) :=
 (M.YU ((a0.Zr.getD p1.toNat default).Zp)).bind fun r6=>(gc ((!((!r6)||(p5 != 1)))&&(((a0.Zr.getD p1.toNat default).Vu) != 0)) (M.Q9 a0 ((a0.Zr.getD p1.toNat default).Vu))).bind fun r7=>(gc (!(((!r6)||(p5 != 1))||((((a0.Zr.getD p1.toNat default).Vu) != 0)&&(decide (r7 ≥ 0))))) (M.ZC ((a0.Zr.getD p1.toNat default).Xd) 1 255)).bind fun r8=>(gc (!((((!r6)||(p5 != 1))||((((a0.Zr.getD p1.toNat default).Vu) != 0)&&(decide (r7 ≥ 0))))||(!r8))) (M.ZC ((a0.Zr.getD p1.toNat default).Gd) 0 65535)).bind fun r9=>bif ((((!r6)||(p5 != 1))||((((a0.Zr.getD p1.toNat default).Vu) != 0)&&(decide (r7 ≥ 0))))||(!r8))||(!r9) then (some (.inr (.inr 1))) else (bif !strEq ((a0.Zr.getD p1.toNat default).Jj) (⟨#[]⟩:ByteArray) then ((M.JS a0 ((a0.Zr.getD p1.toNat default).Jj)).bind fun r16=>bif decide (r16 < 0) then (some (.inr (.inr 5))) else (gd [decide (0≤r16),decide (r16 < (a0.Zc.length:Int))] (bif ((a0.Zc.getD r16.toNat default).ZM)==0 then (some (.inr (.inr 1))) else (M.Ju a0 p1 ())))) else (M.Ju a0 p1 ()))
noncomputable def M.Jw (a0:Zf) (p1:Int) (p4:Int):Option (Int ⊕ (Unit ⊕ Int)) :=
 bif (a0.Zr.getD p1.toNat default).VJ then (M.Jv a0 p1 (wr .i64 (p4+1))) else (M.Jv a0 p1 p4)
noncomputable def M.Jx (a0:Zf) (p1:Int) (p3:Int):Option (Int ⊕ (Unit ⊕ Int)) :=
 bif !strEq ((a0.Zr.getD p1.toNat default).Jj) (⟨#[]⟩:ByteArray) then (M.Jw a0 p1 (wr .i64 (p3+1))) else (M.Jw a0 p1 p3)
noncomputable def M.JT (a0:Zf) (p1:Int):Option (Int ⊕ (Unit ⊕ Int)) :=
 bif decide (p1 < (a0.Zr.length:Int)) then (gd [decide (0≤p1),decide (p1 < (a0.Zr.length:Int))] (bif ((a0.Zr.getD p1.toNat default).Vu) != 0 then (M.Jx a0 p1 1) else (M.Jx a0 p1 0))) else (some (.inr (.inl ())))
noncomputable def M.VT (a0:Zf):Option Int :=
 bif decide ((a0.Zr.length:Int) > 16) then (some 7) else ((loopM (M.JT a0) 0).bind fun y17=>Sum.elim (fun _=>some 0) (fun y19=>some y19) y17)
noncomputable def M.Vo (a0:Zf) (a1:ByteArray) (p1:Int):Option (Int ⊕ (Unit ⊕ Int)) :=
 bif decide (p1 < (a0.Z9.length:Int)) then (gd [decide (0≤p1),decide (p1 < (a0.Z9.length:Int))] (bif strEq ((a0.Z9.getD p1.toNat default).ZH) a1 then (some (.inr (.inr p1))) else (some (.inl (wr .i64 (p1+1)))))) else (some (.inr (.inl ())))
noncomputable def M.JG (a0:Zf) (a1:ByteArray):Option Int :=
 (loopM (M.Vo a0 a1) 0).bind fun y3=>Sum.elim (fun _=>some (-1)) (fun y5=>some y5) y3
noncomputable def M.Yk (a1:List YB) (p1:Int) (p7:Int):Option (Int ⊕ (Unit ⊕ Int)) :=
 bif decide (p7 < p1) then (gd [decide (0≤p7),decide (p7 < (a1.length:Int))] (bif ((a1.getD p7.toNat default).WU)==((a1.getD p1.toNat default).WU) then (some (.inr (.inr 4))) else (some (.inl (wr .i64 (p7+1)))))) else (some (.inr (.inl ())))
noncomputable def M.Yt (a0:Zf) (a1:List YB) (a2:Int) (a3:Int) (a4:Int) (p1:Int):Option (Int ⊕ (Unit ⊕ Int)) :=
 bif decide (p1 < (a1.length:Int)) then (gd [decide (0≤p1),decide (p1 < (a1.length:Int))] ((M.ZC ((a1.getD p1.toNat default).WU) 1 5).bind fun r3=>(gc (!((!r3)||(((a1.getD p1.toNat default).WU)==a2))) (M.ZC ((a1.getD p1.toNat default).KP) a3 a4)).bind fun r4=>(gc (!(((!r3)||(((a1.getD p1.toNat default).WU)==a2))||(!r4))) (M.ZC ((a1.getD p1.toNat default).Gd) 0 65535)).bind fun r5=>bif (((!r3)||(((a1.getD p1.toNat default).WU)==a2))||(!r4))||(!r5) then (some (.inr (.inr 1))) else (bif (((a2==3)&&(((a1.getD p1.toNat default).Kn) != 1))&&(((a1.getD p1.toNat default).Kn) != 2))||((a2 != 3)&&(((a1.getD p1.toNat default).Kn) != 0)) then (some (.inr (.inr 1))) else ((gc (!strEq ((a1.getD p1.toNat default).RO) (⟨#[]⟩:ByteArray)) (M.JG a0 ((a1.getD p1.toNat default).RO))).bind fun r6=>bif (!strEq ((a1.getD p1.toNat default).RO) (⟨#[]⟩:ByteArray))&&(decide (r6 < 0)) then (some (.inr (.inr 5))) else ((loopM (M.Yk a1 p1) 0).bind fun y9=>Sum.elim (fun _=>some (.inl (wr .i64 (p1+1)))) (fun y11=>some (.inr (.inr y11))) y9))))) else (some (.inr (.inl ())))
noncomputable def M.Yb (a0:Zf) (a1:List YB) (a2:Int) (a3:Int) (a4:Int):Option Int :=
 bif decide ((a1.length:Int) > 4) then (some 7) else ((loopM (M.Yt a0 a1 a2 a3 a4) 0).bind fun y12=>Sum.elim (fun _=>some 0) (fun y14=>some y14) y12)
noncomputable def M.Ja (a0:Zf) (p2:Int) (p6:Int):Option (Int ⊕ (Unit ⊕ Int)) :=
 bif decide (p6 < p2) then ((gc (((a0.X5.ZF.getD p6.toNat default).Vb)==((a0.X5.ZF.getD p2.toNat default).Vb)) (M.Vi ((a0.X5.ZF.getD p6.toNat default).Zp) ((a0.X5.ZF.getD p2.toNat default).Zp))).bind fun r8=>gd [decide (0≤p6),decide (p6 < (a0.X5.ZF.length:Int)),decide (0≤p2),decide (p2 < (a0.X5.ZF.length:Int)),guardB (((a0.X5.ZF.getD p6.toNat default).Vb)==((a0.X5.ZF.getD p2.toNat default).Vb)) (decide (0≤p6)),guardB (((a0.X5.ZF.getD p6.toNat default).Vb)==((a0.X5.ZF.getD p2.toNat default).Vb)) (decide (p6 < (a0.X5.ZF.length:Int))),guardB (((a0.X5.ZF.getD p6.toNat default).Vb)==((a0.X5.ZF.getD p2.toNat default).Vb)) (decide (0≤p2)),guardB (((a0.X5.ZF.getD p6.toNat default).Vb)==((a0.X5.ZF.getD p2.toNat default).Vb)) (decide (p2 < (a0.X5.ZF.length:Int)))] (bif (((a0.X5.ZF.getD p6.toNat default).Vb)==((a0.X5.ZF.getD p2.toNat default).Vb))&&r8 then (some (.inr (.inr 6))) else (some (.inl (wr .i64 (p6+1)))))) else (some (.inr (.inl ())))
noncomputable def M.Jb (a0:Zf) (p2:Int):Option (Int ⊕ (Unit ⊕ Int)) :=
 bif decide (p2 < (a0.X5.ZF.length:Int)) then ((M.ZC ((a0.X5.ZF.getD p2.toNat default).Vb) 0 255).bind fun r4=>(gc (!(!r4)) (M.YU ((a0.X5.ZF.getD p2.toNat default).Zp))).bind fun r5=>gd [decide (0≤p2),decide (p2 < (a0.X5.ZF.length:Int)),guardB (!(!r4)) (decide (0≤p2)),guardB (!(!r4)) (decide (p2 < (a0.X5.ZF.length:Int)))] (bif (!r4)||(!r5) then (some (.inr (.inr 1))) else ((loopM (M.Ja a0 p2) 0).bind fun y9=>Sum.elim (fun _=>some (.inl (wr .i64 (p2+1)))) (fun y11=>some (.inr (.inr y11))) y9))) else (some (.inr (.inl ())))
noncomputable def M.JU (a0:Zf):Option Int :=
 bif !a0.X5.Vz then (bif ((a0.X5.Xd != 0)||(decide ((a0.X5.ZF.length:Int) > 0)))||(decide ((a0.X5.Zs.length:Int) > 0)) then (some 1) else (some 0)) else ((M.ZC a0.X5.Xd 1 255).bind fun r1=>bif !r1 then (some 1) else (bif decide ((a0.X5.ZF.length:Int) > 4) then (some 7) else ((loopM (M.Jb a0) 0).bind fun y12=>Sum.elim (fun _=>(M.Yb a0 a0.X5.Zs 3 0 16777215).bind fun r15=>some r15) (fun y14=>some y14) y12)))
noncomputable def M.Vj (a0:Zf):Option Int :=
 bif !a0.Ye.Vz then (bif (((a0.Ye.Xd != 0)||(!strEq a0.Ye.VE (⟨#[]⟩:ByteArray)))||(!strEq a0.Ye.YH (⟨#[]⟩:ByteArray)))||(decide ((a0.Ye.Zs.length:Int) > 0)) then (some 1) else (some 0)) else ((M.ZC a0.Ye.Xd 1 255).bind fun r1=>bif !r1 then (some 1) else ((gc (!strEq a0.Ye.VE (⟨#[]⟩:ByteArray)) (M.QB a0 a0.Ye.VE)).bind fun r2=>(gc ((!((!strEq a0.Ye.VE (⟨#[]⟩:ByteArray))&&(decide (r2 < 0))))&&(!strEq a0.Ye.YH (⟨#[]⟩:ByteArray))) (M.QB a0 a0.Ye.YH)).bind fun r3=>bif ((!strEq a0.Ye.VE (⟨#[]⟩:ByteArray))&&(decide (r2 < 0)))||((!strEq a0.Ye.YH (⟨#[]⟩:ByteArray))&&(decide (r3 < 0))) then (some 5) else ((M.Yb a0 a0.Ye.Zs 4 1 15).bind fun r4=>some r4)))
noncomputable def M.Jc (a0:Zf) (p1:Int) (p6:Int):Option (Int ⊕ (Unit ⊕ Int)) :=
 bif decide (p6 < p1) then (gd [decide (0≤p6),decide (p6 < (a0.Z8.Zl.length:Int)),decide (0≤p1),decide (p1 < (a0.Z8.Zl.length:Int))] (bif ((a0.Z8.Zl.getD p6.toNat default).ZA)==((a0.Z8.Zl.getD p1.toNat default).ZA) then (some (.inr (.inr 4))) else (some (.inl (wr .i64 (p6+1)))))) else (some (.inr (.inl ())))
noncomputable def M.Jd (a0:Zf) (p1:Int):Option (Int ⊕ (Unit ⊕ Int)) :=
 bif decide (p1 < (a0.Z8.Zl.length:Int)) then ((gc (!(((a0.Z8.Zl.getD p1.toNat default).ZA)==0)) (M.ZC ((a0.Z8.Zl.getD p1.toNat default).GC) 1 65535)).bind fun r3=>gd [decide (0≤p1),decide (p1 < (a0.Z8.Zl.length:Int)),guardB (!(((a0.Z8.Zl.getD p1.toNat default).ZA)==0)) (decide (0≤p1)),guardB (!(((a0.Z8.Zl.getD p1.toNat default).ZA)==0)) (decide (p1 < (a0.Z8.Zl.length:Int)))] (bif (((a0.Z8.Zl.getD p1.toNat default).ZA)==0)||(!r3) then (some (.inr (.inr 1))) else ((gc (!strEq ((a0.Z8.Zl.getD p1.toNat default).VE) (⟨#[]⟩:ByteArray)) (M.JG a0 ((a0.Z8.Zl.getD p1.toNat default).VE))).bind fun r4=>(gc ((!((!strEq ((a0.Z8.Zl.getD p1.toNat default).VE) (⟨#[]⟩:ByteArray))&&(decide (r4 < 0))))&&(!strEq ((a0.Z8.Zl.getD p1.toNat default).YH) (⟨#[]⟩:ByteArray))) (M.JG a0 ((a0.Z8.Zl.getD p1.toNat default).YH))).bind fun r5=>gd [decide (0≤p1),decide (p1 < (a0.Z8.Zl.length:Int)),guardB (!strEq ((a0.Z8.Zl.getD p1.toNat default).VE) (⟨#[]⟩:ByteArray)) (decide (0≤p1)),guardB (!strEq ((a0.Z8.Zl.getD p1.toNat default).VE) (⟨#[]⟩:ByteArray)) (decide (p1 < (a0.Z8.Zl.length:Int))),guardB (!((!strEq ((a0.Z8.Zl.getD p1.toNat default).VE) (⟨#[]⟩:ByteArray))&&(decide (r4 < 0)))) (decide (0≤p1)),guardB (!((!strEq ((a0.Z8.Zl.getD p1.toNat default).VE) (⟨#[]⟩:ByteArray))&&(decide (r4 < 0)))) (decide (p1 < (a0.Z8.Zl.length:Int))),guardB ((!((!strEq ((a0.Z8.Zl.getD p1.toNat default).VE) (⟨#[]⟩:ByteArray))&&(decide (r4 < 0))))&&(!strEq ((a0.Z8.Zl.getD p1.toNat default).YH) (⟨#[]⟩:ByteArray))) (decide (0≤p1)),guardB ((!((!strEq ((a0.Z8.Zl.getD p1.toNat default).VE) (⟨#[]⟩:ByteArray))&&(decide (r4 < 0))))&&(!strEq ((a0.Z8.Zl.getD p1.toNat default).YH) (⟨#[]⟩:ByteArray))) (decide (p1 < (a0.Z8.Zl.length:Int)))] (bif ((!strEq ((a0.Z8.Zl.getD p1.toNat default).VE) (⟨#[]⟩:ByteArray))&&(decide (r4 < 0)))||((!strEq ((a0.Z8.Zl.getD p1.toNat default).YH) (⟨#[]⟩:ByteArray))&&(decide (r5 < 0))) then (some (.inr (.inr 5))) else ((loopM (M.Jc a0 p1) 0).bind fun y8=>Sum.elim (fun _=>some (.inl (wr .i64 (p1+1)))) (fun y10=>some (.inr (.inr y10))) y8))))) else (some (.inr (.inl ())))
noncomputable def M.Ve (a0:Zf):Option Int :=
 bif decide ((a0.Z8.Zl.length:Int) > 8) then (some 7) else ((loopM (M.Jd a0) 0).bind fun y11=>Sum.elim (fun _=>some 0) (fun y13=>some y13) y11)
noncomputable def M.Qv (a0:Xb) (p1:Int) (p4:Int):Option (Int ⊕ (Unit ⊕ Int)) :=
 bif decide (p4 < p1) then (gd [decide (0≤p4),decide (p4 < (a0.Zt.length:Int)),decide (0≤p1),decide (p1 < (a0.Zt.length:Int))] (bif ((((a0.Zt.getD p4.toNat default).ZA)==((a0.Zt.getD p1.toNat default).ZA))&&((((a0.Zt.getD p4.toNat default).ZM)==((a0.Zt.getD p1.toNat default).ZM))&&true)) then (some (.inr (.inr 4))) else (some (.inl (wr .i64 (p4+1)))))) else (some (.inr (.inl ())))
noncomputable def M.Y3 (a0:Xb) (p1:Int):Option (Int ⊕ (Unit ⊕ Int)) :=
 bif decide (p1 < (a0.Zt.length:Int)) then ((M.YU (a0.Zt.getD p1.toNat default)).bind fun r3=>gd [decide (0≤p1),decide (p1 < (a0.Zt.length:Int))] (bif !r3 then (some (.inr (.inr 1))) else ((loopM (M.Qv a0 p1) 0).bind fun y6=>Sum.elim (fun _=>some (.inl (wr .i64 (p1+1)))) (fun y8=>some (.inr (.inr y8))) y6))) else (some (.inr (.inl ())))
noncomputable def M.Y4 (a0:Xb) (p12:Int) (p15:Int):Option (Int ⊕ (Unit ⊕ Int)) :=
 bif decide (p15 < p12) then (gd [decide (0≤p15),decide (p15 < (a0.Zq.length:Int)),decide (0≤p12),decide (p12 < (a0.Zq.length:Int))] (bif (((((a0.Zq.getD p15.toNat default).Zp).ZA)==(((a0.Zq.getD p12.toNat default).Zp).ZA))&&(((((a0.Zq.getD p15.toNat default).Zp).ZM)==(((a0.Zq.getD p12.toNat default).Zp).ZM))&&true)) then (some (.inr (.inr 4))) else (some (.inl (wr .i64 (p15+1)))))) else (some (.inr (.inl ())))
noncomputable def M.Y5 (a0:Xb) (p12:Int):Option (Int ⊕ (Unit ⊕ Int)) :=
 bif decide (p12 < (a0.Zq.length:Int)) then ((M.YU ((a0.Zq.getD p12.toNat default).Zp)).bind fun r14=>gd [decide (0≤p12),decide (p12 < (a0.Zq.length:Int))] (bif !r14 then (some (.inr (.inr 1))) else ((loopM (M.Y4 a0 p12) 0).bind fun y17=>Sum.elim (fun _=>some (.inl (wr .i64 (p12+1)))) (fun y19=>some (.inr (.inr y19))) y17))) else (some (.inr (.inl ())))
noncomputable def M.Y6 (a0:Xb) (p23:Int) (p27:Int):Option (Int ⊕ (Unit ⊕ Int)) :=
 bif decide (p27 < p23) then (gd [decide (0≤p27),decide (p27 < (a0.Zn.length:Int))] (bif (((((a0.Zn.getD p27.toNat default).Zp).ZA)==(((a0.Zn.getD p23.toNat default).Zp).ZA))&&(((((a0.Zn.getD p27.toNat default).Zp).ZM)==(((a0.Zn.getD p23.toNat default).Zp).ZM))&&true)) then (some (.inr (.inr 4))) else (some (.inl (wr .i64 (p27+1)))))) else (some (.inr (.inl ())))
noncomputable def M.Y7 (a0:Xb) (p23:Int):Option (Int ⊕ (Unit ⊕ Int)) :=
 bif decide (p23 < (a0.Zn.length:Int)) then (gd [decide (0≤p23),decide (p23 < (a0.Zn.length:Int))] ((M.YU ((a0.Zn.getD p23.toNat default).Zp)).bind fun r25=>(gc (!(!r25)) (M.YU ((a0.Zn.getD p23.toNat default).fIf))).bind fun r26=>bif (!r25)||(!r26) then (some (.inr (.inr 1))) else (bif (((((a0.Zn.getD p23.toNat default).Zp).ZA)==(((a0.Zn.getD p23.toNat default).fIf).ZA))&&(((((a0.Zn.getD p23.toNat default).Zp).ZM)==(((a0.Zn.getD p23.toNat default).fIf).ZM))&&true)) then (some (.inr (.inr 6))) else ((loopM (M.Y6 a0 p23) 0).bind fun y29=>Sum.elim (fun _=>some (.inl (wr .i64 (p23+1)))) (fun y31=>some (.inr (.inr y31))) y29)))) else (some (.inr (.inl ())))
noncomputable def M.Je (a0:Xb):Option Int :=
 bif decide ((a0.Zt.length:Int) > 8) then (some 7) else ((loopM (M.Y3 a0) 0).bind fun y9=>Sum.elim (fun _=>bif decide ((a0.Zq.length:Int) > 8) then (some 7) else ((loopM (M.Y5 a0) 0).bind fun y20=>Sum.elim (fun _=>bif decide ((a0.Zn.length:Int) > 8) then (some 7) else ((loopM (M.Y7 a0) 0).bind fun y32=>Sum.elim (fun _=>some 0) (fun y34=>some y34) y32)) (fun y22=>some y22) y20)) (fun y11=>some y11) y9)
noncomputable def M.Jy (a0:Zf):Option Int :=
 bif !a0.Z8.Vz then (bif ((a0.Z8.XM != 0)||(a0.Z8.XN != 0))||(decide ((wr .i64 ((wr .i64 ((wr .i64 ((wr .i64 ((a0.Z8.Zl.length:Int)+(a0.Z8.Zt.length:Int)))+(a0.Z8.Zq.length:Int)))+(a0.Z8.Zn.length:Int)))+(a0.Z8.Zs.length:Int))) > 0)) then (some 1) else (some 0)) else ((gc (!(a0.GC==0)) (M.ZC a0.Z8.XM 1 255)).bind fun r1=>(gc (!((a0.GC==0)||(!r1))) (M.ZC a0.Z8.XN 1 255)).bind fun r2=>bif ((a0.GC==0)||(!r1))||(!r2) then (some 1) else ((M.Ve a0).bind fun r3=>bif r3 != 0 then (some r3) else ((M.Je a0.Z8).bind fun r4=>bif r4 != 0 then (some r4) else ((M.Yb a0 a0.Z8.Zs 5 0 16777215).bind fun r5=>some r5))))
noncomputable def M.Jq (r3:Int) (r4:Int) (r5:Int) (r6:Int) (r7:Int) (r8:Int) (r9:Int) (r10:Int) (r11:Int) (r12:Int) (p13:Int):Option (Int ⊕ (Unit ⊕ Int)) :=
 bif decide (p13 < (([r3,r4,r5,r6,r7,r8,r9,r10,r11,r12]:List Int).length:Int)) then (gd [decide (0≤p13),decide (p13 < (([r3,r4,r5,r6,r7,r8,r9,r10,r11,r12]:List Int).length:Int))] (bif (([r3,r4,r5,r6,r7,r8,r9,r10,r11,r12]:List Int).getD p13.toNat default) != 0 then (gd [decide (0≤p13),decide (p13 < (([r3,r4,r5,r6,r7,r8,r9,r10,r11,r12]:List Int).length:Int))] (some (.inr (.inr (([r3,r4,r5,r6,r7,r8,r9,r10,r11,r12]:List Int).getD p13.toNat default))))) else (some (.inl (wr .i64 (p13+1)))))) else (some (.inr (.inl ())))
noncomputable def M.Q0 (a0:Zf):Option Int :=
 (M.Jo a0.ZH).bind fun r1=>bif !r1 then (some 3) else ((M.ZC a0.GC 0 65535).bind fun r2=>bif !r2 then (some 1) else ((M.Js a0.Zc).bind fun r3=>(M.QY a0.Xi).bind fun r4=>(M.JR a0).bind fun r5=>(M.QZ a0.XK).bind fun r6=>(M.QC a0).bind fun r7=>(M.Wk a0).bind fun r8=>(M.VT a0).bind fun r9=>(M.JU a0).bind fun r10=>(M.Vj a0).bind fun r11=>(M.Jy a0).bind fun r12=>(loopM (M.Jq r3 r4 r5 r6 r7 r8 r9 r10 r11 r12) 0).bind fun y15=>Sum.elim (fun _=>some 0) (fun y17=>some y17) y15))
noncomputable def M.Wd (a0:ZP) (p1:Int) (p4:Int):Option (Int ⊕ (Unit ⊕ Int)) :=
 bif decide (p4 < p1) then (gd [decide (0≤p4),decide (p4 < (a0.Zd.length:Int)),decide (0≤p1),decide (p1 < (a0.Zd.length:Int))] (bif strEq ((a0.Zd.getD p4.toNat default).ZH) ((a0.Zd.getD p1.toNat default).ZH) then (some (.inr (.inr 4))) else (some (.inl (wr .i64 (p4+1)))))) else (some (.inr (.inl ())))
noncomputable def M.VK (a0:ZP) (p1:Int) (p9:Int) (p11:Int):Option (Int ⊕ (Unit ⊕ Int)) :=
 bif decide (p11 < p1) then ((gc (((((a0.Zd.getD p1.toNat default).Zc).getD p9.toNat default).ZM) != 0) (M.Q9 (a0.Zd.getD p11.toNat default) ((((a0.Zd.getD p1.toNat default).Zc).getD p9.toNat default).ZA))).bind fun r13=>gd [guardB (((((a0.Zd.getD p1.toNat default).Zc).getD p9.toNat default).ZM) != 0) (decide (0≤p11)),guardB (((((a0.Zd.getD p1.toNat default).Zc).getD p9.toNat default).ZM) != 0) (decide (p11 < (a0.Zd.length:Int)))] (bif (((((a0.Zd.getD p1.toNat default).Zc).getD p9.toNat default).ZM) != 0)&&(decide (r13 ≥ 0)) then (some (.inr (.inr 4))) else (some (.inl (wr .i64 (p11+1)))))) else (some (.inr (.inl ())))
noncomputable def M.VL (a0:ZP) (p1:Int) (p9:Int):Option (Int ⊕ (Unit ⊕ Int)) :=
 gd [decide (0≤p1),decide (p1 < (a0.Zd.length:Int))] (bif decide (p9 < (((a0.Zd.getD p1.toNat default).Zc).length:Int)) then (gd [decide (0≤p1),decide (p1 < (a0.Zd.length:Int)),decide (0≤p9),decide (p9 < (((a0.Zd.getD p1.toNat default).Zc).length:Int))] ((loopM (M.VK a0 p1 p9) 0).bind fun y14=>Sum.elim (fun _=>some (.inl (wr .i64 (p9+1)))) (fun y16=>some (.inr (.inr y16))) y14)) else (some (.inr (.inl ()))))
noncomputable def M.VM (a0:ZP) (p1:Int):Option (Int ⊕ (Unit ⊕ Int)) :=
 bif decide (p1 < (a0.Zd.length:Int)) then ((M.Q0 (a0.Zd.getD p1.toNat default)).bind fun r3=>gd [decide (0≤p1),decide (p1 < (a0.Zd.length:Int))] (bif r3 != 0 then (some (.inr (.inr r3))) else ((loopM (M.Wd a0 p1) 0).bind fun y6=>Sum.elim (fun _=>(loopM (M.VL a0 p1) 0).bind fun y17=>Sum.elim (fun _=>some (.inl (wr .i64 (p1+1)))) (fun y19=>some (.inr (.inr y19))) y17) (fun y8=>some (.inr (.inr y8))) y6))) else (some (.inr (.inl ())))
noncomputable def M.Wl (a0:ZP):Option Int :=
 bif decide ((a0.Zd.length:Int) > 8) then (some 7) else ((loopM (M.VM a0) 0).bind fun y20=>Sum.elim (fun _=>some 0) (fun y22=>some y22) y20)
noncomputable def M.WF (a0:ZO) (a1:ZO):Option Int :=
 bif (decide (a0.ZA < a1.ZA))||((a0.ZA==a1.ZA)&&(decide (a0.ZM < a1.ZM))) then (some (-1)) else (bif ((a0.ZA==a1.ZA)&&((a0.ZM==a1.ZM)&&true)) then (some 0) else (some 1))
noncomputable def M.UG (p16:(List Zk) × Int) (p18:(List Zk)):Option (((List Zk) × Int) ⊕ (List Zk)) :=
 some (.inl (p18,wr .i64 (p16.2+1)))
noncomputable def M.W3 (a0:ZP) (p14:(List Zk) × Int) (p16:(List Zk) × Int) (r19:ZO) (p20:Int):Option (Int ⊕ Int) :=
 (gc (decide (p20 < (p16.1.length:Int))) (M.WF ((p16.1.getD (0+p20.toNat) default).Zp) r19)).bind fun r22=>gd [guardB (decide (p20 < (p16.1.length:Int))) (decide (0≤p20)),guardB (decide (p20 < (p16.1.length:Int))) (decide (p20 < (p16.1.length:Int))),guardB ((decide (p20 < (p16.1.length:Int))) && !(decide (r22 < 0))) (decide (0≤p20)),guardB ((decide (p20 < (p16.1.length:Int))) && !(decide (r22 < 0))) (decide (p20 < (p16.1.length:Int))),guardB (((decide (p20 < (p16.1.length:Int))) && !(decide (r22 < 0)))&&(((((p16.1.getD (0+p20.toNat) default).Zp).ZA)==r19.ZA)&&(((((p16.1.getD (0+p20.toNat) default).Zp).ZM)==r19.ZM)&&true))) (decide (0≤p20)),guardB (((decide (p20 < (p16.1.length:Int))) && !(decide (r22 < 0)))&&(((((p16.1.getD (0+p20.toNat) default).Zp).ZA)==r19.ZA)&&(((((p16.1.getD (0+p20.toNat) default).Zp).ZM)==r19.ZM)&&true))) (decide (p20 < (p16.1.length:Int)))] (bif (decide (p20 < (p16.1.length:Int)))&&((decide (r22 < 0))||((((((p16.1.getD (0+p20.toNat) default).Zp).ZA)==r19.ZA)&&(((((p16.1.getD (0+p20.toNat) default).Zp).ZM)==r19.ZM)&&true))&&(decide (((p16.1.getD (0+p20.toNat) default).XI) < ((((a0.Zd.getD p14.2.toNat default).Zc).getD p16.2.toNat default).XI))))) then (some (.inl (wr .i64 (p20+1)))) else (some (.inr p20)))
noncomputable def M.UH (p14:(List Zk) × Int) (p16:(List Zk) × Int) (y23:Int) (p24:(List Zk)):Option (((List Zk) × Int) ⊕ (List Zk)) :=
 gd [decide (0≤y23),decide (y23 < (p24.length:Int)),decide ((((p24.getD (0+y23.toNat) default).Xt).length+1)*16≤140737488355328),decide (0≤y23),decide (y23 < (p24.length:Int))] (M.UG p16 (p24.set (0+y23.toNat) (⟨(p24.getD (0+y23.toNat) default).Zp,(p24.getD (0+y23.toNat) default).XI,((p24.getD (0+y23.toNat) default).Xt)++[(⟨p14.2,p16.2⟩:Ue)]⟩:Zk)))
noncomputable def M.W4 (a0:ZP) (p14:(List Zk) × Int) (p16:(List Zk) × Int):Option (((List Zk) × Int) ⊕ (List Zk)) :=
 gd [decide (0≤p14.2),decide (p14.2 < (a0.Zd.length:Int))] (bif decide (p16.2 < (((a0.Zd.getD p14.2.toNat default).Zc).length:Int)) then (gd [decide (0≤p14.2),decide (p14.2 < (a0.Zd.length:Int)),decide (0≤p16.2),decide (p16.2 < (((a0.Zd.getD p14.2.toNat default).Zc).length:Int))] (bif (((((a0.Zd.getD p14.2.toNat default).Zc).getD p16.2.toNat default).ZM)==0)||((((a0.Zd.getD p14.2.toNat default).Zc).getD p16.2.toNat default).RB) then (M.UG p16 p16.1) else ((M.Q6 ((((a0.Zd.getD p14.2.toNat default).Zc).getD p16.2.toNat default).ZA) ((((a0.Zd.getD p14.2.toNat default).Zc).getD p16.2.toNat default).ZM)).bind fun r19=>(loopM (M.W3 a0 p14 p16 r19) 0).bind fun y23=>gd [guardB (!(y23==(p16.1.length:Int))) (decide (0≤y23)),guardB (!(y23==(p16.1.length:Int))) (decide (y23 < (p16.1.length:Int))),guardB (!((y23==(p16.1.length:Int))||(!(((((p16.1.getD (0+y23.toNat) default).Zp).ZA)==r19.ZA)&&(((((p16.1.getD (0+y23.toNat) default).Zp).ZM)==r19.ZM)&&true))))) (decide (0≤y23)),guardB (!((y23==(p16.1.length:Int))||(!(((((p16.1.getD (0+y23.toNat) default).Zp).ZA)==r19.ZA)&&(((((p16.1.getD (0+y23.toNat) default).Zp).ZM)==r19.ZM)&&true))))) (decide (y23 < (p16.1.length:Int)))] (bif ((y23==(p16.1.length:Int))||(!(((((p16.1.getD (0+y23.toNat) default).Zp).ZA)==r19.ZA)&&(((((p16.1.getD (0+y23.toNat) default).Zp).ZM)==r19.ZM)&&true))))||(((p16.1.getD (0+y23.toNat) default).XI) != ((((a0.Zd.getD p14.2.toNat default).Zc).getD p16.2.toNat default).XI)) then (gd [decide (0≤y23),decide (y23≤(p16.1.length:Int)),decide (0=0)||decide (0 < (p16.1.length - y23.toNat)),decide ((0+(p16.1.length - y23.toNat))*48≤140737488355328)] (gd [decide (0≤y23),decide (y23≤(p16.1.length:Int)),decide (((y23.toNat - 0)+1)*48≤140737488355328),decide ((((y23.toNat - 0)+1)+(0+(p16.1.length - y23.toNat)))*48≤140737488355328)] (M.UH p14 p16 y23 (insL p16.1 y23.toNat (⟨r19,(((a0.Zd.getD p14.2.toNat default).Zc).getD p16.2.toNat default).XI,([]:List Ue)⟩:Zk))))) else (M.UH p14 p16 y23 p16.1))))) else (some (.inr p16.1)))
noncomputable def M.W5 (a0:ZP) (p14:(List Zk) × Int):Option (((List Zk) × Int) ⊕ (List Zk)) :=
 bif decide (p14.2 < (a0.Zd.length:Int)) then ((loopM (M.W4 a0 p14) (p14.1,0)).bind fun y25=>some (.inl (y25,wr .i64 (p14.2+1)))) else (some (.inr p14.1))
noncomputable def M.UI (p28:(List Int) × Int) (p30:(List Int)):Option (((List Int) × Int) ⊕ (List Int)) :=
 some (.inl (p30,wr .i64 (p28.2+1)))
noncomputable def M.W6 (y26:(List Zk)) (p28:(List Int) × Int):Option (((List Int) × Int) ⊕ (List Int)) :=
 bif decide (p28.2 < (y26.length:Int)) then (gd [decide (0≤p28.2),decide (p28.2 < (y26.length:Int))] (bif decide ((((y26.getD p28.2.toNat default).Xt).length:Int) > 1) then (gd [decide ((p28.1.length+1)*8≤140737488355328)] (M.UI p28 (p28.1++[p28.2]))) else (M.UI p28 p28.1))) else (some (.inr p28.1))
noncomputable def M.GW (a0:ZP):Option (Qs × Int) :=
 (M.Wl a0).bind fun r1=>bif r1 != 0 then (some ((⟨([]:List Zk),([]:List Int)⟩:Qs),r1)) else ((loopM (M.W5 a0) (([]:List Zk),0)).bind fun y26=>(loopM (M.W6 y26) (([]:List Int),0)).bind fun y31=>bif decide ((y31.length:Int) > 12) then (some ((⟨([]:List Zk),([]:List Int)⟩:Qs),7)) else (some ((⟨y26,y31⟩:Qs),0)))
noncomputable def M.Yl (a0:List Int):Option (List Int) :=
 gd [decide (0=0)||decide (0 < a0.length),decide ((0+a0.length)*8≤140737488355328)] (some a0)
noncomputable def M.Q1 (a0:Int) (p1:(List (List Int)) × Int × Int) (p3:(List (List Int)) × Int) (p6:(List (List Int)) × Int):Option (((List (List Int)) × Int) ⊕ (List (List Int))) :=
 bif decide (p6.2 < a0) then ((M.Yl (((p1.1.drop p1.2.1.toNat).take (((p1.1.length:Int).toNat) - p1.2.1.toNat)).getD p3.2.toNat default)).bind fun r8=>gd [decide ((r8.length+1)*8≤140737488355328)] (gd [decide ((p6.1.length+1)*24≤140737488355328)] (some (.inl (p6.1++[r8++[p6.2]],wr .i64 (p6.2+1)))))) else (some (.inr p6.1))
noncomputable def M.Qy (a0:Int) (p1:(List (List Int)) × Int × Int) (p3:(List (List Int)) × Int) (p5:Int):Option (((List (List Int)) × Int) ⊕ (List (List Int))) :=
 (loopM (M.Q1 a0 p1 p3) (p3.1,p5)).bind fun y9=>some (.inl (y9,wr .i64 (p3.2+1)))
noncomputable def M.JB (a0:Int) (p1:(List (List Int)) × Int × Int) (p3:(List (List Int)) × Int):Option (((List (List Int)) × Int) ⊕ (List (List Int))) :=
 bif decide (p3.2 < ((((p1.1.length:Int).toNat) - p1.2.1.toNat:Nat):Int)) then (gd [decide (0≤p3.2),decide (p3.2 < (((p1.1.drop p1.2.1.toNat).take (((p1.1.length:Int).toNat) - p1.2.1.toNat)).length:Int))] (bif decide (((((p1.1.drop p1.2.1.toNat).take (((p1.1.length:Int).toNat) - p1.2.1.toNat)).getD p3.2.toNat default).length:Int) > 0) then (gd [decide (0≤(wr .i64 (((((p1.1.drop p1.2.1.toNat).take (((p1.1.length:Int).toNat) - p1.2.1.toNat)).getD p3.2.toNat default).length:Int) - 1))),decide ((wr .i64 (((((p1.1.drop p1.2.1.toNat).take (((p1.1.length:Int).toNat) - p1.2.1.toNat)).getD p3.2.toNat default).length:Int) - 1)) < ((((p1.1.drop p1.2.1.toNat).take (((p1.1.length:Int).toNat) - p1.2.1.toNat)).getD p3.2.toNat default).length:Int))] (M.Qy a0 p1 p3 (wr .i64 (((((p1.1.drop p1.2.1.toNat).take (((p1.1.length:Int).toNat) - p1.2.1.toNat)).getD p3.2.toNat default).getD (wr .i64 (((((p1.1.drop p1.2.1.toNat).take (((p1.1.length:Int).toNat) - p1.2.1.toNat)).getD p3.2.toNat default).length:Int) - 1)).toNat default)+1)))) else (M.Qy a0 p1 p3 0))) else (some (.inr p3.1))
noncomputable def M.V4 (a0:Int) (a1:Int) (p1:(List (List Int)) × Int × Int):Option (((List (List Int)) × Int × Int) ⊕ (List (List Int))) :=
 bif decide (p1.2.2 < a1) then (gd [decide (0≤(p1.1.length:Int)),decide ((p1.1.length:Int)≤(p1.1.length:Int)),decide (0≤p1.2.1),decide (p1.2.1≤((p1.1.length:Int).toNat:Int))] ((loopM (M.JB a0 p1) (p1.1,0)).bind fun y10=>some (.inl (y10,(p1.1.length:Int),wr .i64 (p1.2.2+1))))) else (some (.inr p1.1))
noncomputable def M.We (a0:Int) (a1:Int):Option ((List (List Int)) × Int) :=
 bif (((decide (a0 < 0))||(decide (a0 > 12)))||(decide (a1 < 0)))||(decide (a1 > 2)) then (some (([]:List (List Int)),1)) else ((loopM (M.V4 a0 a1) (([([]:List Int)]:List (List Int)),0,0)).bind fun y11=>some (y11,0))
noncomputable def M.V5 (a0:Int):Option Bool :=
 some (((decide (65≤a0))&&(decide (a0≤90)))||((decide (97≤a0))&&(decide (a0≤122))))
noncomputable def M.Us (a0:Int):Option Bool :=
 some ((decide (48≤a0))&&(decide (a0≤57)))
noncomputable def M.Wm (a0:ByteArray) (p2:Int):Option (Int ⊕ (Unit ⊕ Bool)) :=
 bif decide (p2 < (a0.size:Int)) then (gd [decide (0≤p2),decide (p2 < (a0.size:Int))] ((M.V5 (byteAt a0 p2)).bind fun r4=>(gc (!r4) (M.Us (byteAt a0 p2))).bind fun r5=>bif (((((!r4)&&(!r5))&&((byteAt a0 p2) != 45))&&((byteAt a0 p2) != 95))&&((byteAt a0 p2) != 47))&&((byteAt a0 p2) != 46) then (some (.inr (.inr false))) else (some (.inl (wr .i64 (p2+1)))))) else (some (.inr (.inl ())))
noncomputable def M.Ww (a0:ByteArray):Option Bool :=
 (gc (!((decide ((a0.size:Int) < 1))||(decide ((a0.size:Int) > 15)))) (M.V5 (byteAt a0 0))).bind fun r1=>gd [guardB (!((decide ((a0.size:Int) < 1))||(decide ((a0.size:Int) > 15)))) (decide (0≤0)),guardB (!((decide ((a0.size:Int) < 1))||(decide ((a0.size:Int) > 15)))) (decide (0 < (a0.size:Int)))] (bif ((decide ((a0.size:Int) < 1))||(decide ((a0.size:Int) > 15)))||(!r1) then (some false) else ((loopM (M.Wm a0) 1).bind fun y6=>Sum.elim (fun _=>some true) (fun y8=>some y8) y6))
noncomputable def M.ZV (a0:Int) (a1:Int) (a2:Int):Option Bool :=
 some ((decide (a1≤a0))&&(decide (a0≤a2)))
noncomputable def M.JH (a0:Zx) (b0:ByteArray):Option Bool :=
 some (strEq a0.ZH b0)
noncomputable def M.ZG (a0:List Zx) (a1c0:ByteArray) (p1:Int):Option (Int ⊕ (Unit ⊕ Int)) :=
 bif decide (p1 < (a0.length:Int)) then ((M.JH (a0.getD p1.toNat default) a1c0).bind fun r3=>gd [decide (0≤p1),decide (p1 < (a0.length:Int))] (bif r3 then (some (.inr (.inr p1))) else (some (.inl (wr .i64 (p1+1)))))) else (some (.inr (.inl ())))
noncomputable def M.ZI (a0:List Zx) (a1c0:ByteArray):Option Int :=
 (loopM (M.ZG a0 a1c0) 0).bind fun y4=>Sum.elim (fun _=>some (-1)) (fun y6=>some y6) y4
noncomputable def M.Ql (a0:Zf) (a1:ByteArray):Option Int :=
 (M.ZI a0.Zc a1).bind fun r1=>some r1
noncomputable def M.Qw (a0:Zx):Option Bool :=
 (M.ZV a0.ZM 0 32).bind fun r1=>(gc (!(!r1)) (M.ZV a0.XI 0 4094)).bind fun r2=>(gc (!((!r1)||(!r2))) (M.ZV a0.R6 0 2)).bind fun r3=>bif ((!r1)||(!r2))||(!r3) then (some false) else (bif (a0.ZM==0)&&(((((((a0.ZA != 0)||(a0.XI != 0))||(a0.R6 != 0))||a0.X5)||a0.Ye)||(!strEq a0.VE (⟨#[]⟩:ByteArray)))||(!strEq a0.YH (⟨#[]⟩:ByteArray))) then (some false) else (bif (a0.ZM != 0)&&(a0.ZA==0) then (some false) else (bif a0.X5 then ((M.ZV a0.Vb 0 255).bind fun r4=>(gc r4 (M.ZV a0.RC 1 65535)).bind fun r5=>some (r4&&r5)) else (some ((a0.Vb==0)&&(a0.RC==0))))))
noncomputable def M.JO (a0:Int):Option Int :=
 some (if (if 32 < a0 then 32 else a0) > 0 then (if 32 < a0 then 32 else a0) else 0)
noncomputable def M.J7 (a0:Int):Option Int :=
 (M.JO a0).bind fun r1=>gd [decide (0≤(wr .i64 (32 - r1)))] (some (wr .u32 (4294967295*2 ^ min (wr .i64 (32 - r1)).toNat 32)))
noncomputable def M.YY (a0:Int) (a1:Int):Option ZO :=
 (M.J7 a1).bind fun r1=>(M.JO a1).bind fun r2=>some (⟨bitD .and .u32 a0 r1,r2⟩:ZO)
noncomputable def M.WG (a0:ZO) (a1:Int):Option Bool :=
 (M.J7 a0.ZM).bind fun r1=>some ((bitD .and .u32 a1 r1)==a0.ZA)
noncomputable def M.WJ (a0:ZO) (a1:ZO):Option Bool :=
 (gc (decide (a0.ZM≤a1.ZM)) (M.WG a0 a1.ZA)).bind fun r1=>some ((decide (a0.ZM≤a1.ZM))&&r1)
noncomputable def M.Vk (a0:ZO) (a1:ZO):Option Bool :=
 (M.WJ a0 a1).bind fun r1=>(gc (!r1) (M.WJ a1 a0)).bind fun r2=>some (r1||r2)
noncomputable def M.Yo (a0:Zf) (p1:Int) (p6:Int):Option (Int ⊕ (Unit ⊕ Int)) :=
 bif decide (p6 < ((p1.toNat - 0:Nat):Int)) then (gd [decide (0≤p6),decide (p6 < (((a0.Zc.drop 0).take (p1.toNat - 0)).length:Int))] ((gc ((((a0.Zc.getD p1.toNat default).ZM) != 0)&&(((((a0.Zc.drop 0).take (p1.toNat - 0)).getD p6.toNat default).ZM) != 0)) (M.YY ((a0.Zc.getD p1.toNat default).ZA) ((a0.Zc.getD p1.toNat default).ZM))).bind fun r8=>(gc ((((a0.Zc.getD p1.toNat default).ZM) != 0)&&(((((a0.Zc.drop 0).take (p1.toNat - 0)).getD p6.toNat default).ZM) != 0)) (M.YY ((((a0.Zc.drop 0).take (p1.toNat - 0)).getD p6.toNat default).ZA) ((((a0.Zc.drop 0).take (p1.toNat - 0)).getD p6.toNat default).ZM))).bind fun r9=>(gc ((((a0.Zc.getD p1.toNat default).ZM) != 0)&&(((((a0.Zc.drop 0).take (p1.toNat - 0)).getD p6.toNat default).ZM) != 0)) (M.Vk r8 r9)).bind fun r10=>bif ((((a0.Zc.getD p1.toNat default).ZM) != 0)&&(((((a0.Zc.drop 0).take (p1.toNat - 0)).getD p6.toNat default).ZM) != 0))&&r10 then (some (.inr (.inr 6))) else (some (.inl (wr .i64 (p6+1)))))) else (some (.inr (.inl ())))
noncomputable def M.YE (a0:Zf) (p1:Int):Option (Int ⊕ (Unit ⊕ Int)) :=
 bif decide (p1 < (a0.Zc.length:Int)) then (gd [decide (0≤p1),decide (p1 < (a0.Zc.length:Int))] ((M.Ww ((a0.Zc.getD p1.toNat default).ZH)).bind fun r3=>bif !r3 then (some (.inr (.inr 3))) else ((M.Ql a0 ((a0.Zc.getD p1.toNat default).ZH)).bind fun r4=>bif decide (r4 < p1) then (some (.inr (.inr 4))) else ((M.Qw (a0.Zc.getD p1.toNat default)).bind fun r5=>bif !r5 then (some (.inr (.inr 1))) else (gd [decide (0≤p1),decide (p1≤(a0.Zc.length:Int))] ((loopM (M.Yo a0 p1) 0).bind fun y11=>Sum.elim (fun _=>some (.inl (wr .i64 (p1+1)))) (fun y13=>some (.inr (.inr y13))) y11)))))) else (some (.inr (.inl ())))
noncomputable def M.YM (a0:Zf):Option Int :=
 bif decide ((a0.Zc.length:Int) > 8) then (some 7) else ((loopM (M.YE a0) 0).bind fun y14=>Sum.elim (fun _=>some 0) (fun y16=>some y16) y14)
noncomputable def M.JP (a0:ZD) (b0:ByteArray):Option Bool :=
 some (strEq a0.ZH b0)
noncomputable def M.ZJ (a0:List ZD) (a1c0:ByteArray) (p1:Int):Option (Int ⊕ (Unit ⊕ Int)) :=
 bif decide (p1 < (a0.length:Int)) then ((M.JP (a0.getD p1.toNat default) a1c0).bind fun r3=>gd [decide (0≤p1),decide (p1 < (a0.length:Int))] (bif r3 then (some (.inr (.inr p1))) else (some (.inl (wr .i64 (p1+1)))))) else (some (.inr (.inl ())))
noncomputable def M.ZQ (a0:List ZD) (a1c0:ByteArray):Option Int :=
 (loopM (M.ZJ a0 a1c0) 0).bind fun y4=>Sum.elim (fun _=>some (-1)) (fun y6=>some y6) y4
noncomputable def M.Yu (a0:Zf) (a1:ByteArray):Option Int :=
 (M.ZQ a0.Xi a1).bind fun r1=>some r1
noncomputable def M.YV (a0:Int) (a1:Int) (a2:ByteArray) (a3:Int) (a4:Int):Option Int :=
 (M.Ww a2).bind fun r1=>bif !r1 then (some 3) else (bif decide (a1 < a0) then (some 4) else (bif a3==0 then (some 1) else (bif decide (a3 > a4) then (some 7) else (some 0))))
noncomputable def M.QW (a0:ZO):Option Bool :=
 (gc ((decide (a0.ZM ≥ 0))&&(decide (a0.ZM≤32))) (M.J7 a0.ZM)).bind fun r1=>some (((decide (a0.ZM ≥ 0))&&(decide (a0.ZM≤32)))&&((bitD .andNot .u32 a0.ZA r1)==0))
noncomputable def M.Yi (a0:Zf) (p1:Int) (p5:Int):Option (Int ⊕ (Unit ⊕ Int)) :=
 bif decide (p5 < (((a0.Xi.getD p1.toNat default).Xv).length:Int)) then (gd [decide (0≤p5),decide (p5 < (((a0.Xi.getD p1.toNat default).Xv).length:Int))] ((M.QW ((((a0.Xi.getD p1.toNat default).Xv).getD p5.toNat default).Zp)).bind fun r7=>bif (((!r7)||(decide (((((a0.Xi.getD p1.toNat default).Xv).getD p5.toNat default).Zcp) < (((((a0.Xi.getD p1.toNat default).Xv).getD p5.toNat default).Zp).ZM))))||(decide (((((a0.Xi.getD p1.toNat default).Xv).getD p5.toNat default).Zcq) < ((((a0.Xi.getD p1.toNat default).Xv).getD p5.toNat default).Zcp))))||(decide (((((a0.Xi.getD p1.toNat default).Xv).getD p5.toNat default).Zcq) > 32)) then (some (.inr (.inr 1))) else (some (.inl (wr .i64 (p5+1)))))) else (some (.inr (.inl ())))
noncomputable def M.Ys (a0:Zf) (p1:Int):Option (Int ⊕ (Unit ⊕ Int)) :=
 bif decide (p1 < (a0.Xi.length:Int)) then (gd [decide (0≤p1),decide (p1 < (a0.Xi.length:Int))] ((M.Yu a0 ((a0.Xi.getD p1.toNat default).ZH)).bind fun r3=>(M.YV p1 r3 ((a0.Xi.getD p1.toNat default).ZH) (((a0.Xi.getD p1.toNat default).Xv).length:Int) 16).bind fun r4=>bif r4 != 0 then (some (.inr (.inr r4))) else ((loopM (M.Yi a0 p1) 0).bind fun y8=>Sum.elim (fun _=>some (.inl (wr .i64 (p1+1)))) (fun y10=>some (.inr (.inr y10))) y8))) else (some (.inr (.inl ())))
noncomputable def M.YF (a0:Zf):Option Int :=
 bif decide ((a0.Xi.length:Int) > 8) then (some 7) else ((loopM (M.Ys a0) 0).bind fun y11=>Sum.elim (fun _=>some 0) (fun y13=>some y13) y11)
noncomputable def M.Vp (a0:Xw) (b0:ByteArray):Option Bool :=
 some (strEq a0.ZH b0)
noncomputable def M.ZZ (a0:List Xw) (a1c0:ByteArray) (p1:Int):Option (Int ⊕ (Unit ⊕ Int)) :=
 bif decide (p1 < (a0.length:Int)) then ((M.Vp (a0.getD p1.toNat default) a1c0).bind fun r3=>gd [decide (0≤p1),decide (p1 < (a0.length:Int))] (bif r3 then (some (.inr (.inr p1))) else (some (.inl (wr .i64 (p1+1)))))) else (some (.inr (.inl ())))
noncomputable def M.Z4 (a0:List Xw) (a1c0:ByteArray):Option Int :=
 (loopM (M.ZZ a0 a1c0) 0).bind fun y4=>Sum.elim (fun _=>some (-1)) (fun y6=>some y6) y4
noncomputable def M.Y8 (a0:Zf) (a1:ByteArray):Option Int :=
 (M.Z4 a0.Z9 a1).bind fun r1=>some r1
noncomputable def M.Jf (a0:Ub):Option Bool :=
 (M.ZV a0.Gd (-1) 65535).bind fun r1=>(gc r1 (M.ZV a0.W1 (-1) 16777215)).bind fun r2=>(gc (r1&&r2) (M.ZV a0.G9 (-1) 65535)).bind fun r3=>(gc ((r1&&r2)&&r3) (M.ZV a0.Gl (-1) 1000000)).bind fun r4=>(gc (((r1&&r2)&&r3)&&r4) (M.ZV a0.Gm 0 8)).bind fun r5=>some ((((r1&&r2)&&r3)&&r4)&&r5)
noncomputable def M.Yv (a0:Zf) (p1:Int) (p5:Int):Option (Int ⊕ (Unit ⊕ Int)) :=
 bif decide (p5 < (((a0.Z9.getD p1.toNat default).Xj).length:Int)) then (gd [decide (0≤p5),decide (p5 < (((a0.Z9.getD p1.toNat default).Xj).length:Int))] ((gc (!strEq ((((a0.Z9.getD p1.toNat default).Xj).getD p5.toNat default).QX) (⟨#[]⟩:ByteArray)) (M.Yu a0 ((((a0.Z9.getD p1.toNat default).Xj).getD p5.toNat default).QX))).bind fun r7=>bif (!strEq ((((a0.Z9.getD p1.toNat default).Xj).getD p5.toNat default).QX) (⟨#[]⟩:ByteArray))&&(decide (r7 < 0)) then (some (.inr (.inr 5))) else ((M.Jf (((a0.Z9.getD p1.toNat default).Xj).getD p5.toNat default)).bind fun r8=>bif !r8 then (some (.inr (.inr 1))) else (some (.inl (wr .i64 (p5+1))))))) else (some (.inr (.inl ())))
noncomputable def M.YJ (a0:Zf) (p1:Int):Option (Int ⊕ (Unit ⊕ Int)) :=
 bif decide (p1 < (a0.Z9.length:Int)) then (gd [decide (0≤p1),decide (p1 < (a0.Z9.length:Int))] ((M.Y8 a0 ((a0.Z9.getD p1.toNat default).ZH)).bind fun r3=>(M.YV p1 r3 ((a0.Z9.getD p1.toNat default).ZH) (((a0.Z9.getD p1.toNat default).Xj).length:Int) 8).bind fun r4=>bif r4 != 0 then (some (.inr (.inr r4))) else ((loopM (M.Yv a0 p1) 0).bind fun y9=>Sum.elim (fun _=>some (.inl (wr .i64 (p1+1)))) (fun y11=>some (.inr (.inr y11))) y9))) else (some (.inr (.inl ())))
noncomputable def M.Y9 (a0:Zf):Option Int :=
 bif decide ((a0.Z9.length:Int) > 8) then (some 7) else ((loopM (M.YJ a0) 0).bind fun y12=>Sum.elim (fun _=>some 0) (fun y14=>some y14) y12)
noncomputable def M.Um (a0:V2) (b0:ByteArray):Option Bool :=
 some (strEq a0.ZH b0)
noncomputable def M.Xm (a0:List V2) (a1c0:ByteArray) (p1:Int):Option (Int ⊕ (Unit ⊕ Int)) :=
 bif decide (p1 < (a0.length:Int)) then ((M.Um (a0.getD p1.toNat default) a1c0).bind fun r3=>gd [decide (0≤p1),decide (p1 < (a0.length:Int))] (bif r3 then (some (.inr (.inr p1))) else (some (.inl (wr .i64 (p1+1)))))) else (some (.inr (.inl ())))
noncomputable def M.Xu (a0:List V2) (a1c0:ByteArray):Option Int :=
 (loopM (M.Xm a0 a1c0) 0).bind fun y4=>Sum.elim (fun _=>some (-1)) (fun y6=>some y6) y4
noncomputable def M.V6 (a0:Zf) (a1:ByteArray):Option Int :=
 (M.Xu a0.XK a1).bind fun r1=>some r1
noncomputable def M.Q2 (a0:Vc):Option Bool :=
 some (((decide (0≤a0.GB))&&(decide (a0.GB≤a0.Ka)))&&(decide (a0.Ka≤65535)))
noncomputable def M.JV (a0:Kb):Option Bool :=
 (M.ZV a0.Yg (-1) 255).bind fun r1=>bif ((!r1)||((bitD .and .u32 a0.RM.ZA a0.RM.GA) != 0))||((bitD .and .u32 a0.RN.ZA a0.RN.GA) != 0) then (some false) else ((M.Q2 a0.VF).bind fun r2=>(gc (!(!r2)) (M.Q2 a0.VG)).bind fun r3=>bif (!r2)||(!r3) then (some false) else (some (((a0.Yg==6)||(a0.Yg==17))||(((a0.VF.GB==0)&&((a0.VF.Ka==65535)&&true))&&((a0.VG.GB==0)&&((a0.VG.Ka==65535)&&true))))))
noncomputable def M.QI (a0:Zf) (p1:Int) (p5:Int):Option (Int ⊕ (Unit ⊕ Int)) :=
 bif decide (p5 < (((a0.XK.getD p1.toNat default).Xv).length:Int)) then (gd [decide (0≤p5),decide (p5 < (((a0.XK.getD p1.toNat default).Xv).length:Int))] ((M.JV (((a0.XK.getD p1.toNat default).Xv).getD p5.toNat default)).bind fun r7=>bif !r7 then (some (.inr (.inr 1))) else (some (.inl (wr .i64 (p5+1)))))) else (some (.inr (.inl ())))
noncomputable def M.Jl (a0:Zf) (p1:Int):Option (Int ⊕ (Unit ⊕ Int)) :=
 bif decide (p1 < (a0.XK.length:Int)) then (gd [decide (0≤p1),decide (p1 < (a0.XK.length:Int))] ((M.V6 a0 ((a0.XK.getD p1.toNat default).ZH)).bind fun r3=>(M.YV p1 r3 ((a0.XK.getD p1.toNat default).ZH) (((a0.XK.getD p1.toNat default).Xv).length:Int) 16).bind fun r4=>bif r4 != 0 then (some (.inr (.inr r4))) else ((loopM (M.QI a0 p1) 0).bind fun y8=>Sum.elim (fun _=>some (.inl (wr .i64 (p1+1)))) (fun y10=>some (.inr (.inr y10))) y8))) else (some (.inr (.inl ())))
noncomputable def M.JW (a0:Zf):Option Int :=
 bif decide ((a0.XK.length:Int) > 8) then (some 7) else ((loopM (M.Jl a0) 0).bind fun y11=>Sum.elim (fun _=>some 0) (fun y13=>some y13) y11)
noncomputable def M.YZ (a0:YX):Option Bool :=
 bif a0.J5==1 then (some ((((a0.J5==a0.J5)&&((a0.Qm==a0.Qm)&&((a0.YA==a0.YA)&&((a0.Yg==0)&&((a0.QR==0)&&((a0.Qh==0)&&(strEq a0.QX (⟨#[]⟩:ByteArray)&&((a0.GB==0)&&((a0.Ka==0)&&true)))))))))&&(a0.Qm != 0))&&(a0.YA != 0))) else (bif a0.J5==2 then (some (((((a0.J5==a0.J5)&&((a0.Qm==0)&&((a0.YA==0)&&((a0.Yg==0)&&((a0.QR==0)&&((a0.Qh==0)&&(strEq a0.QX a0.QX&&((a0.GB==a0.GB)&&((a0.Ka==a0.Ka)&&true)))))))))&&(a0.GB != 0))&&(decide (a0.GB≤a0.Ka)))&&(decide ((wr .u32 (a0.Ka - a0.GB)) < 8)))) else (bif a0.J5==3 then ((gc (((a0.Qm != 0)&&(a0.YA != 0))&&((a0.Yg==6)||(a0.Yg==17))) (M.ZV a0.QR 0 65535)).bind fun r1=>(gc ((((a0.Qm != 0)&&(a0.YA != 0))&&((a0.Yg==6)||(a0.Yg==17)))&&r1) (M.ZV a0.Qh 0 65535)).bind fun r2=>some ((((((((a0.Qm != 0)&&(a0.YA != 0))&&((a0.Yg==6)||(a0.Yg==17)))&&r1)&&r2)&&(strEq a0.QX (⟨#[]⟩:ByteArray)))&&(a0.GB==0))&&(a0.Ka==0))) else (some false)))
noncomputable def M.JI (a0:Zf) (p1:Int):Option (Int ⊕ (Unit ⊕ Int)) :=
 bif decide (p1 < (a0.Xf.length:Int)) then (gd [decide (0≤p1),decide (p1 < (a0.Xf.length:Int))] ((M.YZ (a0.Xf.getD p1.toNat default)).bind fun r3=>bif !r3 then (some (.inr (.inr 1))) else ((gc (((a0.Xf.getD p1.toNat default).J5)==2) (M.V6 a0 ((a0.Xf.getD p1.toNat default).QX))).bind fun r4=>bif (((a0.Xf.getD p1.toNat default).J5)==2)&&(decide (r4 < 0)) then (some (.inr (.inr 5))) else (some (.inl (wr .i64 (p1+1))))))) else (some (.inr (.inl ())))
noncomputable def M.Vf (a0:Zf):Option Int :=
 bif decide ((a0.Xf.length:Int) > 8) then (some 7) else ((loopM (M.JI a0) 0).bind fun y5=>Sum.elim (fun _=>some 0) (fun y7=>some y7) y5)
noncomputable def M.QQ (a0:Zf) (p1:Int):Option (Int ⊕ (Unit ⊕ Int)) :=
 bif decide (p1 < (a0.Zc.length:Int)) then (gd [decide (0≤p1),decide (p1 < (a0.Zc.length:Int))] ((gc (!strEq ((a0.Zc.getD p1.toNat default).VE) (⟨#[]⟩:ByteArray)) (M.V6 a0 ((a0.Zc.getD p1.toNat default).VE))).bind fun r3=>(gc ((!((!strEq ((a0.Zc.getD p1.toNat default).VE) (⟨#[]⟩:ByteArray))&&(decide (r3 < 0))))&&(!strEq ((a0.Zc.getD p1.toNat default).YH) (⟨#[]⟩:ByteArray))) (M.V6 a0 ((a0.Zc.getD p1.toNat default).YH))).bind fun r4=>bif ((!strEq ((a0.Zc.getD p1.toNat default).VE) (⟨#[]⟩:ByteArray))&&(decide (r3 < 0)))||((!strEq ((a0.Zc.getD p1.toNat default).YH) (⟨#[]⟩:ByteArray))&&(decide (r4 < 0))) then (some (.inr (.inr 5))) else (some (.inl (wr .i64 (p1+1)))))) else (some (.inr (.inl ())))
noncomputable def M.Jm (a0:Zf):Option Int :=
 (loopM (M.QQ a0) 0).bind fun y5=>Sum.elim (fun _=>some 0) (fun y7=>some y7) y5
noncomputable def M.VU (a0:Zx) (b0:Int):Option Bool :=
 some ((a0.ZM != 0)&&(a0.ZA==b0))
noncomputable def M.ZW (a0:List Zx) (a1c0:Int) (p1:Int):Option (Int ⊕ (Unit ⊕ Int)) :=
 bif decide (p1 < (a0.length:Int)) then ((M.VU (a0.getD p1.toNat default) a1c0).bind fun r3=>gd [decide (0≤p1),decide (p1 < (a0.length:Int))] (bif r3 then (some (.inr (.inr p1))) else (some (.inl (wr .i64 (p1+1)))))) else (some (.inr (.inl ())))
noncomputable def M.Z1 (a0:List Zx) (a1c0:Int):Option Int :=
 (loopM (M.ZW a0 a1c0) 0).bind fun y4=>Sum.elim (fun _=>some (-1)) (fun y6=>some y6) y4
noncomputable def M.Vl (a0:Zf) (a1:Int):Option Int :=
 (M.Z1 a0.Zc a1).bind fun r1=>some r1
noncomputable def M.YI (p1:Int × Int) (p3:Int):Option ((Int × Int) ⊕ Int) :=
 some (.inl (p3,wr .i64 (p1.2+1)))
noncomputable def M.Qa (a1:Yh) (p1:Int × Int):Option ((Int × Int) ⊕ Int) :=
 bif decide (p1.2 < 3) then (gd [decide (0≤p1.2),decide (p1.2 < (([a1.Vu != 0,!strEq a1.Jj (⟨#[]⟩:ByteArray),a1.VJ]:List Bool).length:Int))] (bif ([a1.Vu != 0,!strEq a1.Jj (⟨#[]⟩:ByteArray),a1.VJ]:List Bool).getD p1.2.toNat default then (M.YI p1 (wr .i64 (p1.1+1))) else (M.YI p1 p1.1))) else (some (.inr p1.1))
noncomputable def M.QD (a0:Zf) (a1:Yh):Option Bool :=
 (loopM (M.Qa a1) (0,0)).bind fun y4=>(M.QW a1.Zp).bind fun r5=>(gc ((r5&&(y4==1)) && !(a1.Vu==0)) (M.Vl a0 a1.Vu)).bind fun r6=>(gc ((r5&&(y4==1))&&((a1.Vu==0)||(decide (r6 < 0)))) (M.ZV a1.Xd 1 255)).bind fun r7=>(gc (((r5&&(y4==1))&&((a1.Vu==0)||(decide (r6 < 0))))&&r7) (M.ZV a1.Gd 0 65535)).bind fun r8=>some ((((r5&&(y4==1))&&((a1.Vu==0)||(decide (r6 < 0))))&&r7)&&r8)
noncomputable def M.YN (a0:Zf) (p1:Int) (p5:Int):Option (Int ⊕ (Unit ⊕ Int)) :=
 bif decide (p5 < ((p1.toNat - 0:Nat):Int)) then (gd [decide (0≤p5),decide (p5 < (((a0.Zr.drop 0).take (p1.toNat - 0)).length:Int))] (bif (((((((a0.Zr.drop 0).take (p1.toNat - 0)).getD p5.toNat default).Zp).ZA)==(((a0.Zr.getD p1.toNat default).Zp).ZA))&&(((((((a0.Zr.drop 0).take (p1.toNat - 0)).getD p5.toNat default).Zp).ZM)==(((a0.Zr.getD p1.toNat default).Zp).ZM))&&true))&&(((((a0.Zr.drop 0).take (p1.toNat - 0)).getD p5.toNat default).Xd)==((a0.Zr.getD p1.toNat default).Xd)) then (some (.inr (.inr 6))) else (some (.inl (wr .i64 (p5+1)))))) else (some (.inr (.inl ())))
noncomputable def M.Yz (a0:Zf) (p1:Int) (_p4:Unit):Option (Int ⊕ (Unit ⊕ Int)) :=
 gd [decide (0≤p1),decide (p1≤(a0.Zr.length:Int))] ((loopM (M.YN a0 p1) 0).bind fun y7=>Sum.elim (fun _=>some (.inl (wr .i64 (p1+1)))) (fun y9=>some (.inr (.inr y9))) y7)
noncomputable def M.Qj (a0:Zf) (p1:Int):Option (Int ⊕ (Unit ⊕ Int)) :=
 bif decide (p1 < (a0.Zr.length:Int)) then (gd [decide (0≤p1),decide (p1 < (a0.Zr.length:Int))] ((M.QD a0 (a0.Zr.getD p1.toNat default)).bind fun r3=>bif !r3 then (some (.inr (.inr 1))) else (bif !strEq ((a0.Zr.getD p1.toNat default).Jj) (⟨#[]⟩:ByteArray) then ((M.Ql a0 ((a0.Zr.getD p1.toNat default).Jj)).bind fun r10=>bif decide (r10 < 0) then (some (.inr (.inr 5))) else (gd [decide (0≤r10),decide (r10 < (a0.Zc.length:Int))] (bif ((a0.Zc.getD r10.toNat default).ZM)==0 then (some (.inr (.inr 1))) else (M.Yz a0 p1 ())))) else (M.Yz a0 p1 ())))) else (some (.inr (.inl ())))
noncomputable def M.QJ (a0:Zf):Option Int :=
 bif decide ((a0.Zr.length:Int) > 16) then (some 7) else ((loopM (M.Qj a0) 0).bind fun y11=>Sum.elim (fun _=>some 0) (fun y13=>some y13) y11)
noncomputable def M.Qb (a1:List YB) (p1:Int) (p8:Int):Option (Int ⊕ (Unit ⊕ Int)) :=
 bif decide (p8 < ((p1.toNat - 0:Nat):Int)) then (gd [decide (0≤p8),decide (p8 < (((a1.drop 0).take (p1.toNat - 0)).length:Int))] (bif ((((a1.drop 0).take (p1.toNat - 0)).getD p8.toNat default).WU)==((a1.getD p1.toNat default).WU) then (some (.inr (.inr 4))) else (some (.inl (wr .i64 (p8+1)))))) else (some (.inr (.inl ())))
noncomputable def M.Qx (a0:Zf) (a1:List YB) (a2:Int) (a3:Int) (a4:Int) (a5:Int) (p1:Int):Option (Int ⊕ (Unit ⊕ Int)) :=
 bif decide (p1 < (a1.length:Int)) then (gd [decide (0≤p1),decide (p1 < (a1.length:Int))] ((M.ZV ((a1.getD p1.toNat default).WU) 1 5).bind fun r3=>(gc (!((!r3)||(((a1.getD p1.toNat default).WU)==a2))) (M.ZV ((a1.getD p1.toNat default).KP) a3 a4)).bind fun r4=>(gc (!(((!r3)||(((a1.getD p1.toNat default).WU)==a2))||(!r4))) (M.ZV ((a1.getD p1.toNat default).Gd) 0 65535)).bind fun r5=>(gc (!((((!r3)||(((a1.getD p1.toNat default).WU)==a2))||(!r4))||(!r5))) (M.ZV ((a1.getD p1.toNat default).Kn) (if a5 < 1 then a5 else 1) a5)).bind fun r6=>bif ((((!r3)||(((a1.getD p1.toNat default).WU)==a2))||(!r4))||(!r5))||(!r6) then (some (.inr (.inr 1))) else ((gc (!strEq ((a1.getD p1.toNat default).RO) (⟨#[]⟩:ByteArray)) (M.Y8 a0 ((a1.getD p1.toNat default).RO))).bind fun r7=>bif (!strEq ((a1.getD p1.toNat default).RO) (⟨#[]⟩:ByteArray))&&(decide (r7 < 0)) then (some (.inr (.inr 5))) else (gd [decide (0≤p1),decide (p1≤(a1.length:Int))] ((loopM (M.Qb a1 p1) 0).bind fun y10=>Sum.elim (fun _=>some (.inl (wr .i64 (p1+1)))) (fun y12=>some (.inr (.inr y12))) y10))))) else (some (.inr (.inl ())))
noncomputable def M.YG (a0:Zf) (a1:List YB) (a2:Int) (a3:Int) (a4:Int) (a5:Int):Option Int :=
 bif decide ((a1.length:Int) > 4) then (some 7) else ((loopM (M.Qx a0 a1 a2 a3 a4 a5) 0).bind fun y13=>Sum.elim (fun _=>some 0) (fun y15=>some y15) y13)
noncomputable def M.Yw (a0:Zf) (p2:Int) (p6:Int):Option (Int ⊕ (Unit ⊕ Int)) :=
 bif decide (p6 < ((p2.toNat - 0:Nat):Int)) then (gd [decide (0≤p6),decide (p6 < (((a0.X5.ZF.drop 0).take (p2.toNat - 0)).length:Int))] ((gc (((((a0.X5.ZF.drop 0).take (p2.toNat - 0)).getD p6.toNat default).Vb)==((a0.X5.ZF.getD p2.toNat default).Vb)) (M.Vk ((((a0.X5.ZF.drop 0).take (p2.toNat - 0)).getD p6.toNat default).Zp) ((a0.X5.ZF.getD p2.toNat default).Zp))).bind fun r8=>bif (((((a0.X5.ZF.drop 0).take (p2.toNat - 0)).getD p6.toNat default).Vb)==((a0.X5.ZF.getD p2.toNat default).Vb))&&r8 then (some (.inr (.inr 6))) else (some (.inl (wr .i64 (p6+1)))))) else (some (.inr (.inl ())))
noncomputable def M.YK (a0:Zf) (p2:Int):Option (Int ⊕ (Unit ⊕ Int)) :=
 bif decide (p2 < (a0.X5.ZF.length:Int)) then (gd [decide (0≤p2),decide (p2 < (a0.X5.ZF.length:Int))] ((M.ZV ((a0.X5.ZF.getD p2.toNat default).Vb) 0 255).bind fun r4=>(gc (!(!r4)) (M.QW ((a0.X5.ZF.getD p2.toNat default).Zp))).bind fun r5=>bif (!r4)||(!r5) then (some (.inr (.inr 1))) else (gd [decide (0≤p2),decide (p2≤(a0.X5.ZF.length:Int))] ((loopM (M.Yw a0 p2) 0).bind fun y9=>Sum.elim (fun _=>some (.inl (wr .i64 (p2+1)))) (fun y11=>some (.inr (.inr y11))) y9)))) else (some (.inr (.inl ())))
noncomputable def M.Qc (a0:Zf):Option Int :=
 bif !a0.X5.Vz then (bif ((a0.X5.Xd != 0)||(decide ((a0.X5.ZF.length:Int) > 0)))||(decide ((a0.X5.Zs.length:Int) > 0)) then (some 1) else (some 0)) else ((M.ZV a0.X5.Xd 1 255).bind fun r1=>bif !r1 then (some 1) else (bif decide ((a0.X5.ZF.length:Int) > 4) then (some 7) else ((loopM (M.YK a0) 0).bind fun y12=>Sum.elim (fun _=>(M.YG a0 a0.X5.Zs 3 0 16777215 2).bind fun r15=>some r15) (fun y14=>some y14) y12)))
noncomputable def M.Yj (a0:Zf):Option Int :=
 bif !a0.Ye.Vz then (bif (((a0.Ye.Xd != 0)||(!strEq a0.Ye.VE (⟨#[]⟩:ByteArray)))||(!strEq a0.Ye.YH (⟨#[]⟩:ByteArray)))||(decide ((a0.Ye.Zs.length:Int) > 0)) then (some 1) else (some 0)) else ((M.ZV a0.Ye.Xd 1 255).bind fun r1=>bif !r1 then (some 1) else ((gc (!strEq a0.Ye.VE (⟨#[]⟩:ByteArray)) (M.Yu a0 a0.Ye.VE)).bind fun r2=>(gc ((!((!strEq a0.Ye.VE (⟨#[]⟩:ByteArray))&&(decide (r2 < 0))))&&(!strEq a0.Ye.YH (⟨#[]⟩:ByteArray))) (M.Yu a0 a0.Ye.YH)).bind fun r3=>bif ((!strEq a0.Ye.VE (⟨#[]⟩:ByteArray))&&(decide (r2 < 0)))||((!strEq a0.Ye.YH (⟨#[]⟩:ByteArray))&&(decide (r3 < 0))) then (some 5) else ((M.YG a0 a0.Ye.Zs 4 1 15 0).bind fun r4=>some r4)))
noncomputable def M.Yx (a0:Zf) (p1:Int) (p6:Int):Option (Int ⊕ (Unit ⊕ Int)) :=
 bif decide (p6 < ((p1.toNat - 0:Nat):Int)) then (gd [decide (0≤p6),decide (p6 < (((a0.Z8.Zl.drop 0).take (p1.toNat - 0)).length:Int))] (bif ((((a0.Z8.Zl.drop 0).take (p1.toNat - 0)).getD p6.toNat default).ZA)==((a0.Z8.Zl.getD p1.toNat default).ZA) then (some (.inr (.inr 4))) else (some (.inl (wr .i64 (p6+1)))))) else (some (.inr (.inl ())))
noncomputable def M.YL (a0:Zf) (p1:Int):Option (Int ⊕ (Unit ⊕ Int)) :=
 bif decide (p1 < (a0.Z8.Zl.length:Int)) then (gd [decide (0≤p1),decide (p1 < (a0.Z8.Zl.length:Int))] ((gc (!(((a0.Z8.Zl.getD p1.toNat default).ZA)==0)) (M.ZV ((a0.Z8.Zl.getD p1.toNat default).GC) 1 65535)).bind fun r3=>bif (((a0.Z8.Zl.getD p1.toNat default).ZA)==0)||(!r3) then (some (.inr (.inr 1))) else ((gc (!strEq ((a0.Z8.Zl.getD p1.toNat default).VE) (⟨#[]⟩:ByteArray)) (M.Y8 a0 ((a0.Z8.Zl.getD p1.toNat default).VE))).bind fun r4=>(gc ((!((!strEq ((a0.Z8.Zl.getD p1.toNat default).VE) (⟨#[]⟩:ByteArray))&&(decide (r4 < 0))))&&(!strEq ((a0.Z8.Zl.getD p1.toNat default).YH) (⟨#[]⟩:ByteArray))) (M.Y8 a0 ((a0.Z8.Zl.getD p1.toNat default).YH))).bind fun r5=>bif ((!strEq ((a0.Z8.Zl.getD p1.toNat default).VE) (⟨#[]⟩:ByteArray))&&(decide (r4 < 0)))||((!strEq ((a0.Z8.Zl.getD p1.toNat default).YH) (⟨#[]⟩:ByteArray))&&(decide (r5 < 0))) then (some (.inr (.inr 5))) else (gd [decide (0≤p1),decide (p1≤(a0.Z8.Zl.length:Int))] ((loopM (M.Yx a0 p1) 0).bind fun y8=>Sum.elim (fun _=>some (.inl (wr .i64 (p1+1)))) (fun y10=>some (.inr (.inr y10))) y8))))) else (some (.inr (.inl ())))
noncomputable def M.Qd (a0:Zf):Option Int :=
 bif decide ((a0.Z8.Zl.length:Int) > 8) then (some 7) else ((loopM (M.YL a0) 0).bind fun y11=>Sum.elim (fun _=>some 0) (fun y13=>some y13) y11)
noncomputable def M.XV (a0:List ZO) (a1:ZO) (p1:Int):Option (Int ⊕ (Unit ⊕ Int)) :=
 bif decide (p1 < (a0.length:Int)) then (gd [decide (0≤p1),decide (p1 < (a0.length:Int))] (bif ((a1.ZA==((a0.getD p1.toNat default).ZA))&&((a1.ZM==((a0.getD p1.toNat default).ZM))&&true)) then (some (.inr (.inr p1))) else (some (.inl (wr .i64 (p1+1)))))) else (some (.inr (.inl ())))
noncomputable def M.XQ (a0:List ZO) (a1:ZO):Option Int :=
 (loopM (M.XV a0 a1) 0).bind fun y3=>Sum.elim (fun _=>some (-1)) (fun y5=>some y5) y3
noncomputable def M.Xx (a0:List ZO) (a1:ZO):Option Bool :=
 (M.XQ a0 a1).bind fun r1=>some (decide (r1 ≥ 0))
noncomputable def M.YO (a0:Xb) (p1:Int):Option (Int ⊕ (Unit ⊕ Int)) :=
 bif decide (p1 < (a0.Zt.length:Int)) then (gd [decide (0≤p1),decide (p1 < (a0.Zt.length:Int))] ((M.QW (a0.Zt.getD p1.toNat default)).bind fun r3=>bif !r3 then (some (.inr (.inr 1))) else ((M.Xx ((a0.Zt.drop 0).take (p1.toNat - 0)) (a0.Zt.getD p1.toNat default)).bind fun r4=>gd [decide (0≤p1),decide (p1≤(a0.Zt.length:Int))] (bif r4 then (some (.inr (.inr 4))) else (some (.inl (wr .i64 (p1+1)))))))) else (some (.inr (.inl ())))
noncomputable def M.YP (a0:Xb) (p8:Int) (p11:Int):Option (Int ⊕ (Unit ⊕ Int)) :=
 bif decide (p11 < ((p8.toNat - 0:Nat):Int)) then (gd [decide (0≤p11),decide (p11 < (((a0.Zq.drop 0).take (p8.toNat - 0)).length:Int))] (bif (((((((a0.Zq.drop 0).take (p8.toNat - 0)).getD p11.toNat default).Zp).ZA)==(((a0.Zq.getD p8.toNat default).Zp).ZA))&&(((((((a0.Zq.drop 0).take (p8.toNat - 0)).getD p11.toNat default).Zp).ZM)==(((a0.Zq.getD p8.toNat default).Zp).ZM))&&true)) then (some (.inr (.inr 4))) else (some (.inl (wr .i64 (p11+1)))))) else (some (.inr (.inl ())))
noncomputable def M.YQ (a0:Xb) (p8:Int):Option (Int ⊕ (Unit ⊕ Int)) :=
 bif decide (p8 < (a0.Zq.length:Int)) then (gd [decide (0≤p8),decide (p8 < (a0.Zq.length:Int))] ((M.QW ((a0.Zq.getD p8.toNat default).Zp)).bind fun r10=>bif !r10 then (some (.inr (.inr 1))) else (gd [decide (0≤p8),decide (p8≤(a0.Zq.length:Int))] ((loopM (M.YP a0 p8) 0).bind fun y13=>Sum.elim (fun _=>some (.inl (wr .i64 (p8+1)))) (fun y15=>some (.inr (.inr y15))) y13)))) else (some (.inr (.inl ())))
noncomputable def M.YR (a0:Xb) (p19:Int) (p23:Int):Option (Int ⊕ (Unit ⊕ Int)) :=
 bif decide (p23 < ((p19.toNat - 0:Nat):Int)) then (gd [decide (0≤p23),decide (p23 < (((a0.Zn.drop 0).take (p19.toNat - 0)).length:Int))] (bif (((((((a0.Zn.drop 0).take (p19.toNat - 0)).getD p23.toNat default).Zp).ZA)==(((a0.Zn.getD p19.toNat default).Zp).ZA))&&(((((((a0.Zn.drop 0).take (p19.toNat - 0)).getD p23.toNat default).Zp).ZM)==(((a0.Zn.getD p19.toNat default).Zp).ZM))&&true)) then (some (.inr (.inr 4))) else (some (.inl (wr .i64 (p23+1)))))) else (some (.inr (.inl ())))
noncomputable def M.YS (a0:Xb) (p19:Int):Option (Int ⊕ (Unit ⊕ Int)) :=
 bif decide (p19 < (a0.Zn.length:Int)) then (gd [decide (0≤p19),decide (p19 < (a0.Zn.length:Int))] ((M.QW ((a0.Zn.getD p19.toNat default).Zp)).bind fun r21=>(gc (!(!r21)) (M.QW ((a0.Zn.getD p19.toNat default).fIf))).bind fun r22=>bif (!r21)||(!r22) then (some (.inr (.inr 1))) else (bif (((((a0.Zn.getD p19.toNat default).Zp).ZA)==(((a0.Zn.getD p19.toNat default).fIf).ZA))&&(((((a0.Zn.getD p19.toNat default).Zp).ZM)==(((a0.Zn.getD p19.toNat default).fIf).ZM))&&true)) then (some (.inr (.inr 6))) else (gd [decide (0≤p19),decide (p19≤(a0.Zn.length:Int))] ((loopM (M.YR a0 p19) 0).bind fun y25=>Sum.elim (fun _=>some (.inl (wr .i64 (p19+1)))) (fun y27=>some (.inr (.inr y27))) y25))))) else (some (.inr (.inl ())))
noncomputable def M.QL (a0:Xb):Option Int :=
 bif decide ((a0.Zt.length:Int) > 8) then (some 7) else ((loopM (M.YO a0) 0).bind fun y5=>Sum.elim (fun _=>bif decide ((a0.Zq.length:Int) > 8) then (some 7) else ((loopM (M.YQ a0) 0).bind fun y16=>Sum.elim (fun _=>bif decide ((a0.Zn.length:Int) > 8) then (some 7) else ((loopM (M.YS a0) 0).bind fun y28=>Sum.elim (fun _=>some 0) (fun y30=>some y30) y28)) (fun y18=>some y18) y16)) (fun y7=>some y7) y5)
noncomputable def M.YT (a0:Zf):Option Int :=
 bif !a0.Z8.Vz then (bif ((((((a0.Z8.XM != 0)||(a0.Z8.XN != 0))||(decide ((a0.Z8.Zl.length:Int) > 0)))||(decide ((a0.Z8.Zt.length:Int) > 0)))||(decide ((a0.Z8.Zq.length:Int) > 0)))||(decide ((a0.Z8.Zn.length:Int) > 0)))||(decide ((a0.Z8.Zs.length:Int) > 0)) then (some 1) else (some 0)) else ((gc (!(a0.GC==0)) (M.ZV a0.Z8.XM 1 255)).bind fun r1=>(gc (!((a0.GC==0)||(!r1))) (M.ZV a0.Z8.XN 1 255)).bind fun r2=>bif ((a0.GC==0)||(!r1))||(!r2) then (some 1) else ((M.Qd a0).bind fun r3=>bif r3 != 0 then (some r3) else ((M.QL a0.Z8).bind fun r4=>bif r4 != 0 then (some r4) else ((M.YG a0 a0.Z8.Zs 5 0 16777215 0).bind fun r5=>some r5))))
noncomputable def M.Jg (a0:Zf):Option Int :=
 (M.Ww a0.ZH).bind fun r1=>bif !r1 then (some 3) else ((M.ZV a0.GC 0 65535).bind fun r2=>bif !r2 then (some 1) else (gd [decide (0≤0),decide (0 < (10:Int))] ((M.YM a0).bind fun r3=>bif r3 != 0 then (some r3) else (gd [decide (0≤1),decide (1 < (10:Int))] ((M.YF a0).bind fun r4=>bif r4 != 0 then (some r4) else (gd [decide (0≤2),decide (2 < (10:Int))] ((M.Y9 a0).bind fun r5=>bif r5 != 0 then (some r5) else (gd [decide (0≤3),decide (3 < (10:Int))] ((M.JW a0).bind fun r6=>bif r6 != 0 then (some r6) else (gd [decide (0≤4),decide (4 < (10:Int))] ((M.Vf a0).bind fun r7=>bif r7 != 0 then (some r7) else (gd [decide (0≤5),decide (5 < (10:Int))] ((M.Jm a0).bind fun r8=>bif r8 != 0 then (some r8) else (gd [decide (0≤6),decide (6 < (10:Int))] ((M.QJ a0).bind fun r9=>bif r9 != 0 then (some r9) else (gd [decide (0≤7),decide (7 < (10:Int))] ((M.Qc a0).bind fun r10=>bif r10 != 0 then (some r10) else (gd [decide (0≤8),decide (8 < (10:Int))] ((M.Yj a0).bind fun r11=>bif r11 != 0 then (some r11) else (gd [decide (0≤9),decide (9 < (10:Int))] ((M.YT a0).bind fun r12=>bif r12 != 0 then (some r12) else (some 0))))))))))))))))))))))
noncomputable def M.Qe (a0:Zx) (b0:Zf):Option Bool :=
 (gc (a0.ZM != 0) (M.Vl b0 a0.ZA)).bind fun r1=>some ((a0.ZM != 0)&&(decide (r1 ≥ 0)))
noncomputable def M.ZK (a0:List Zx) (a1c0:Zf) (p1:Int):Option (Int ⊕ (Unit ⊕ Int)) :=
 bif decide (p1 < (a0.length:Int)) then ((M.Qe (a0.getD p1.toNat default) a1c0).bind fun r3=>gd [decide (0≤p1),decide (p1 < (a0.length:Int))] (bif r3 then (some (.inr (.inr p1))) else (some (.inl (wr .i64 (p1+1)))))) else (some (.inr (.inl ())))
noncomputable def M.ZR (a0:List Zx) (a1c0:Zf):Option Int :=
 (loopM (M.ZK a0 a1c0) 0).bind fun y4=>Sum.elim (fun _=>some (-1)) (fun y6=>some y6) y4
noncomputable def M.ZL (a0:List Zx) (a1c0:Zf):Option Bool :=
 (M.ZR a0 a1c0).bind fun r1=>some (decide (r1 ≥ 0))
noncomputable def M.Jn (a0:Zf) (a1:Zf):Option Bool :=
 (M.ZL a1.Zc a0).bind fun r1=>some r1
noncomputable def M.Vg (a0:ZP) (p1:Int) (p4:Int):Option (Int ⊕ (Unit ⊕ Int)) :=
 bif decide (p4 < ((p1.toNat - 0:Nat):Int)) then (gd [decide (0≤p4),decide (p4 < (((a0.Zd.drop 0).take (p1.toNat - 0)).length:Int))] ((gc (!(strEq ((((a0.Zd.drop 0).take (p1.toNat - 0)).getD p4.toNat default).ZH) ((a0.Zd.getD p1.toNat default).ZH))) (M.Jn (((a0.Zd.drop 0).take (p1.toNat - 0)).getD p4.toNat default) (a0.Zd.getD p1.toNat default))).bind fun r6=>bif (strEq ((((a0.Zd.drop 0).take (p1.toNat - 0)).getD p4.toNat default).ZH) ((a0.Zd.getD p1.toNat default).ZH))||r6 then (some (.inr (.inr 4))) else (some (.inl (wr .i64 (p4+1)))))) else (some (.inr (.inl ())))
noncomputable def M.VN (a0:ZP) (p1:Int):Option (Int ⊕ (Unit ⊕ Int)) :=
 bif decide (p1 < (a0.Zd.length:Int)) then (gd [decide (0≤p1),decide (p1 < (a0.Zd.length:Int))] ((M.Jg (a0.Zd.getD p1.toNat default)).bind fun r3=>bif r3 != 0 then (some (.inr (.inr r3))) else (gd [decide (0≤p1),decide (p1≤(a0.Zd.length:Int))] ((loopM (M.Vg a0 p1) 0).bind fun y7=>Sum.elim (fun _=>some (.inl (wr .i64 (p1+1)))) (fun y9=>some (.inr (.inr y9))) y7)))) else (some (.inr (.inl ())))
noncomputable def M.QS (a0:ZP):Option Int :=
 bif decide ((a0.Zd.length:Int) > 8) then (some 7) else ((loopM (M.VN a0) 0).bind fun y10=>Sum.elim (fun _=>some 0) (fun y12=>some y12) y10)
noncomputable def M.Jh (i:Int) (p:(List Zk) × (List (Xc × Int)) × Int) (q:(List Zk) × (List (Xc × Int)) × Int):Option (((List Zk) × (List (Xc × Int)) × Int) ⊕ ((List Zk) × (List (Xc × Int)))) :=
 gd [decide (0≤q.2.2),decide (q.2.2 < (q.1.length:Int)),decide (((q.1.getD (0+q.2.2.toNat) default).Xt.length+1)*16≤140737488355328)] (some (.inl (q.1.set (0+q.2.2.toNat) ⟨(q.1.getD (0+q.2.2.toNat) default).Zp,(q.1.getD (0+q.2.2.toNat) default).XI,(q.1.getD (0+q.2.2.toNat) default).Xt++[⟨i,p.2.2⟩]⟩,q.2.1,wr .i64 (p.2.2+1))))
noncomputable def M.Q3 (a0:ZP) (i:Int) (p:(List Zk) × (List (Xc × Int)) × Int):Option (((List Zk) × (List (Xc × Int)) × Int) ⊕ ((List Zk) × (List (Xc × Int)))) :=
 bif decide (p.2.2 < (((a0.Zd.getD i.toNat default).Zc).length:Int)) then (gd [decide (0≤p.2.2),decide (p.2.2 < (((a0.Zd.getD i.toNat default).Zc).length:Int))] (bif (((a0.Zd.getD i.toNat default).Zc.getD p.2.2.toNat default).ZM==0)||((a0.Zd.getD i.toNat default).Zc.getD p.2.2.toNat default).RB then (some (.inl (p.1,p.2.1,wr .i64 (p.2.2+1)))) else ((M.YY ((a0.Zd.getD i.toNat default).Zc.getD p.2.2.toNat default).ZA ((a0.Zd.getD i.toNat default).Zc.getD p.2.2.toNat default).ZM).bind fun r=>bif !(lkM (topoKeyEq ⟨r,((a0.Zd.getD i.toNat default).Zc.getD p.2.2.toNat default).XI⟩) p.2.1).2 then (gd [decide ((p.1.length+1)*48≤140737488355328)] (M.Jh i p (p.1++[⟨r,((a0.Zd.getD i.toNat default).Zc.getD p.2.2.toNat default).XI,[]⟩],p.2.1++[(⟨r,((a0.Zd.getD i.toNat default).Zc.getD p.2.2.toNat default).XI⟩,(p.1.length:Int))],(p.1.length:Int)))) else (M.Jh i p (p.1,p.2.1,(lkM (topoKeyEq ⟨r,((a0.Zd.getD i.toNat default).Zc.getD p.2.2.toNat default).XI⟩) p.2.1).1))))) else (some (.inr (p.1,p.2.1)))
noncomputable def M.Jz (a0:ZP) (p:(List Zk) × (List (Xc × Int)) × Int):Option (((List Zk) × (List (Xc × Int)) × Int) ⊕ (List Zk)) :=
 bif decide (p.2.2 < (a0.Zd.length:Int)) then (gd [decide (0≤p.2.2),decide (p.2.2 < (a0.Zd.length:Int))] ((loopM (M.Q3 a0 p.2.2) (p.1,p.2.1,0)).bind fun y=>some (.inl (y.1,y.2,wr .i64 (p.2.2+1))))) else (some (.inr p.1))
noncomputable def M.Wn (a0:ZP):Option (List Zk) :=
 (loopM (M.Jz a0) ([],[],0)).bind fun y=>some y
noncomputable def M.Qz (a0:Int):Option Bool :=
 some (a0 != a0)
noncomputable def M.QM (a0:Int) (a1:Int):Option Int :=
 (M.Qz a0).bind fun r1=>(M.Qz a1).bind fun r2=>bif r1 then (bif r2 then (some 0) else (some (-1))) else (bif r2 then (some 1) else (bif decide (a0 < a1) then (some (-1)) else (bif decide (a0 > a1) then (some 1) else (some 0))))
noncomputable def M.J0 (a0:Int):Option Bool :=
 some (a0 != a0)
noncomputable def M.Q4 (a0:Int) (a1:Int):Option Int :=
 (M.J0 a0).bind fun r1=>(M.J0 a1).bind fun r2=>bif r1 then (bif r2 then (some 0) else (some (-1))) else (bif r2 then (some 1) else (bif decide (a0 < a1) then (some (-1)) else (bif decide (a0 > a1) then (some 1) else (some 0))))
noncomputable def M.Wo (a0:ZO) (a1:ZO):Option Int :=
 (M.QM a0.ZA a1.ZA).bind fun r1=>bif r1 != 0 then (some r1) else ((M.Q4 a0.ZM a1.ZM).bind fun r2=>some r2)
noncomputable def M.JJ (a0:List Int) (p1:Int):Option (Int ⊕ (Unit ⊕ Int)) :=
 bif decide (p1 < (a0.length:Int)) then (gd [decide (0≤p1),decide (p1 < (a0.length:Int))] (bif (a0.getD p1.toNat default) != 0 then (some (.inr (.inr (a0.getD p1.toNat default)))) else (some (.inl (wr .i64 (p1+1)))))) else (some (.inr (.inl ())))
noncomputable def M.W7 (a0:List Int):Option Int :=
 (loopM (M.JJ a0) 0).bind fun y3=>Sum.elim (fun _=>some 0) (fun y5=>some y5) y3
noncomputable def M.VV (a0:Zk) (a1:Zk):Option Int :=
 (M.Wo a0.Zp a1.Zp).bind fun r1=>(M.Q4 a0.XI a1.XI).bind fun r2=>(M.W7 ([r1,r2]:List Int)).bind fun r3=>some r3
noncomputable def M.XJ (a0:List Zk):Option (List Zk) :=
 sortU M.VV a0
noncomputable def M.J1 (p5:(List Int) × Int) (p7:(List Int)):Option (((List Int) × Int) ⊕ (List Int)) :=
 some (.inl (p7,wr .i64 (p5.2+1)))
noncomputable def M.Vm (r3:(List Zk)) (p5:(List Int) × Int):Option (((List Int) × Int) ⊕ (List Int)) :=
 bif decide (p5.2 < (r3.length:Int)) then (gd [decide (0≤p5.2),decide (p5.2 < (r3.length:Int))] (bif decide ((((r3.getD p5.2.toNat default).Xt).length:Int) ≥ 2) then (gd [decide ((p5.1.length+1)*8≤140737488355328)] (M.J1 p5 (p5.1++[p5.2]))) else (M.J1 p5 p5.1))) else (some (.inr p5.1))
noncomputable def M.Wx (a0:ZP):Option (Qs × Int) :=
 (M.QS a0).bind fun r1=>bif r1 != 0 then (some ((⟨([]:List Zk),([]:List Int)⟩:Qs),r1)) else ((M.Wn a0).bind fun r2=>(M.XJ r2).bind fun r3=>gd [decide (r3.length=r2.length)] ((loopM (M.Vm r3) (([]:List Int),0)).bind fun y8=>bif decide ((y8.length:Int) > 12) then (some ((⟨([]:List Zk),([]:List Int)⟩:Qs),7)) else (some ((⟨r3,y8⟩:Qs),0))))
noncomputable def M.XR (a0:List Zf):Option (List Zf) :=
 gd [decide (0=0)||decide (0 < a0.length),decide ((0+a0.length)*448≤140737488355328)] (some a0)
noncomputable def M.Xy (a0:List Zx):Option (List Zx) :=
 gd [decide (0=0)||decide (0 < a0.length),decide ((0+a0.length)*112≤140737488355328)] (some a0)
noncomputable def M.Xr (a0:List ZD):Option (List ZD) :=
 gd [decide (0=0)||decide (0 < a0.length),decide ((0+a0.length)*40≤140737488355328)] (some a0)
noncomputable def M.Xs (a0:List Vy):Option (List Vy) :=
 gd [decide (0=0)||decide (0 < a0.length),decide ((0+a0.length)*40≤140737488355328)] (some a0)
noncomputable def M.XG (a0:List Xw):Option (List Xw) :=
 gd [decide (0=0)||decide (0 < a0.length),decide ((0+a0.length)*40≤140737488355328)] (some a0)
noncomputable def M.XS (a0:List Ub):Option (List Ub) :=
 gd [decide (0=0)||decide (0 < a0.length),decide ((0+a0.length)*64≤140737488355328)] (some a0)
noncomputable def M.Yc (a0:List V2):Option (List V2) :=
 gd [decide (0=0)||decide (0 < a0.length),decide ((0+a0.length)*40≤140737488355328)] (some a0)
noncomputable def M.X6 (a0:List Kb):Option (List Kb) :=
 gd [decide (0=0)||decide (0 < a0.length),decide ((0+a0.length)*64≤140737488355328)] (some a0)
noncomputable def M.Xk (a0:List YX):Option (List YX) :=
 gd [decide (0=0)||decide (0 < a0.length),decide ((0+a0.length)*64≤140737488355328)] (some a0)
noncomputable def M.Xl (a0:List Yh):Option (List Yh) :=
 gd [decide (0=0)||decide (0 < a0.length),decide ((0+a0.length)*64≤140737488355328)] (some a0)
noncomputable def M.Xz (a0:List Wf):Option (List Wf) :=
 gd [decide (0=0)||decide (0 < a0.length),decide ((0+a0.length)*24≤140737488355328)] (some a0)
noncomputable def M.Xa (a0:List YB):Option (List YB) :=
 gd [decide (0=0)||decide (0 < a0.length),decide ((0+a0.length)*48≤140737488355328)] (some a0)
noncomputable def M.XH (a0:List VH):Option (List VH) :=
 gd [decide (0=0)||decide (0 < a0.length),decide ((0+a0.length)*48≤140737488355328)] (some a0)
noncomputable def M.XT (a0:List ZO):Option (List ZO) :=
 gd [decide (0=0)||decide (0 < a0.length),decide ((0+a0.length)*16≤140737488355328)] (some a0)
noncomputable def M.XA (a0:List Wg):Option (List Wg) :=
 gd [decide (0=0)||decide (0 < a0.length),decide ((0+a0.length)*24≤140737488355328)] (some a0)
noncomputable def M.XB (a0:List Wh):Option (List Wh) :=
 gd [decide (0=0)||decide (0 < a0.length),decide ((0+a0.length)*40≤140737488355328)] (some a0)
noncomputable def M.QN (r2:(List ZD)) (p3:(List ZD) × Int):Option (((List ZD) × Int) ⊕ (List ZD)) :=
 bif decide (p3.2 < (r2.length:Int)) then ((M.Xs ((p3.1.getD (0+p3.2.toNat) default).Xv)).bind fun r5=>gd [decide (0≤p3.2),decide (p3.2 < (p3.1.length:Int)),decide (0≤p3.2),decide (p3.2 < (p3.1.length:Int))] (some (.inl (p3.1.set (0+p3.2.toNat) (⟨(p3.1.getD (0+p3.2.toNat) default).ZH,r5⟩:ZD),wr .i64 (p3.2+1))))) else (some (.inr p3.1))
noncomputable def M.QO (r7:(List Xw)) (p8:(List Xw) × Int):Option (((List Xw) × Int) ⊕ (List Xw)) :=
 bif decide (p8.2 < (r7.length:Int)) then ((M.XS ((p8.1.getD (0+p8.2.toNat) default).Xj)).bind fun r10=>gd [decide (0≤p8.2),decide (p8.2 < (p8.1.length:Int)),decide (0≤p8.2),decide (p8.2 < (p8.1.length:Int))] (some (.inl (p8.1.set (0+p8.2.toNat) (⟨(p8.1.getD (0+p8.2.toNat) default).ZH,r10⟩:Xw),wr .i64 (p8.2+1))))) else (some (.inr p8.1))
noncomputable def M.QP (r12:(List V2)) (p13:(List V2) × Int):Option (((List V2) × Int) ⊕ (List V2)) :=
 bif decide (p13.2 < (r12.length:Int)) then ((M.X6 ((p13.1.getD (0+p13.2.toNat) default).Xv)).bind fun r15=>gd [decide (0≤p13.2),decide (p13.2 < (p13.1.length:Int)),decide (0≤p13.2),decide (p13.2 < (p13.1.length:Int))] (some (.inl (p13.1.set (0+p13.2.toNat) (⟨(p13.1.getD (0+p13.2.toNat) default).ZH,r15⟩:V2),wr .i64 (p13.2+1))))) else (some (.inr p13.1))
noncomputable def M.JX (a0:Zf):Option Zf :=
 (M.Xy a0.Zc).bind fun r1=>(M.Xr a0.Xi).bind fun r2=>(loopM (M.QN r2) (r2,0)).bind fun y6=>(M.XG a0.Z9).bind fun r7=>(loopM (M.QO r7) (r7,0)).bind fun y11=>(M.Yc a0.XK).bind fun r12=>(loopM (M.QP r12) (r12,0)).bind fun y16=>(M.Xk a0.Xf).bind fun r17=>(M.Xl a0.Zr).bind fun r18=>(M.Xz a0.X5.ZF).bind fun r19=>(M.Xa a0.X5.Zs).bind fun r20=>(M.Xa a0.Ye.Zs).bind fun r21=>(M.XH a0.Z8.Zl).bind fun r22=>(M.XT a0.Z8.Zt).bind fun r23=>(M.XA a0.Z8.Zq).bind fun r24=>(M.XB a0.Z8.Zn).bind fun r25=>(M.Xa a0.Z8.Zs).bind fun r26=>some (⟨a0.ZH,a0.GC,r1,y6,y11,y16,r17,r18,(⟨a0.X5.Vz,a0.X5.Xd,r19,r20⟩:Wv),(⟨a0.Ye.Vz,a0.Ye.Xd,a0.Ye.VE,a0.Ye.YH,r21⟩:QA),(⟨a0.Z8.Vz,a0.Z8.XM,a0.Z8.XN,r22,r23,r24,r25,r26⟩:Xb)⟩:Zf)
noncomputable def M.Qr (r1:(List Zf)) (p2:(List Zf) × Int):Option (((List Zf) × Int) ⊕ (List Zf)) :=
 bif decide (p2.2 < (r1.length:Int)) then ((M.JX (p2.1.getD (0+p2.2.toNat) default)).bind fun r4=>gd [decide (0≤p2.2),decide (p2.2 < (p2.1.length:Int)),decide (0≤p2.2),decide (p2.2 < (p2.1.length:Int))] (some (.inl (p2.1.set (0+p2.2.toNat) r4,wr .i64 (p2.2+1))))) else (some (.inr p2.1))
noncomputable def M.JC (a0:ZP):Option ZP :=
 (M.XR a0.Zd).bind fun r1=>(loopM (M.Qr r1) (r1,0)).bind fun y5=>some (⟨y5⟩:ZP)
noncomputable def M.J6 (a1:List Int) (r1:Qs × Int) (p2:Int):Option (Int ⊕ (Unit ⊕ (W2 × Int))) :=
 bif decide (p2 < (a1.length:Int)) then (gd [decide (0≤p2),decide (p2 < (a1.length:Int))] (gd [guardB ((!((decide ((a1.getD p2.toNat default) < 0))||(decide ((a1.getD p2.toNat default) ≥ (r1.1.Wr.length:Int)))))&&(decide (p2 > 0))) (decide (0≤(wr .i64 (p2 - 1)))),guardB ((!((decide ((a1.getD p2.toNat default) < 0))||(decide ((a1.getD p2.toNat default) ≥ (r1.1.Wr.length:Int)))))&&(decide (p2 > 0))) (decide ((wr .i64 (p2 - 1)) < (a1.length:Int)))] (bif ((decide ((a1.getD p2.toNat default) < 0))||(decide ((a1.getD p2.toNat default) ≥ (r1.1.Wr.length:Int))))||((decide (p2 > 0))&&(decide ((a1.getD p2.toNat default)≤(a1.getD (wr .i64 (p2 - 1)).toNat default)))) then (some (.inr (.inr ((⟨(⟨([]:List Zf)⟩:ZP),(⟨([]:List Zk),([]:List Int)⟩:Qs),([]:List Int)⟩:W2),1)))) else (some (.inl (wr .i64 (p2+1))))))) else (some (.inr (.inl ())))
noncomputable def M.WM (a0:ZP) (a1:List Int):Option (W2 × Int) :=
 (M.Wx a0).bind fun r1=>bif r1.2 != 0 then (some ((⟨(⟨([]:List Zf)⟩:ZP),(⟨([]:List Zk),([]:List Int)⟩:Qs),([]:List Int)⟩:W2),r1.2)) else (bif decide ((a1.length:Int) > 2) then (some ((⟨(⟨([]:List Zf)⟩:ZP),(⟨([]:List Zk),([]:List Int)⟩:Qs),([]:List Int)⟩:W2),1)) else ((loopM (M.J6 a1 r1) 0).bind fun y4=>Sum.elim (fun _=>(M.JC a0).bind fun r7=>(M.Yl a1).bind fun r8=>some ((⟨r7,r1.1,r8⟩:W2),0)) (fun y6=>some y6) y4))
noncomputable def M.Un (a0:List Int) (a1:List Int) (p1:Int):Option (Int ⊕ (Unit ⊕ Bool)) :=
 bif decide (p1 < (a0.length:Int)) then (gd [decide (0≤p1),decide (p1 < (a0.length:Int)),decide (0≤p1),decide (p1 < (a1.length:Int))] (bif (a0.getD p1.toNat default) != (a1.getD p1.toNat default) then (some (.inr (.inr false))) else (some (.inl (wr .i64 (p1+1)))))) else (some (.inr (.inl ())))
noncomputable def M.R7 (a0:List Int) (a1:List Int):Option Bool :=
 bif (a0.length:Int) != (a1.length:Int) then (some false) else ((loopM (M.Un a0 a1) 0).bind fun y3=>Sum.elim (fun _=>some true) (fun y5=>some y5) y3)
noncomputable def M.W8 :Option ZP :=
 some (⟨([(⟨(⟨#[97]⟩:ByteArray),0,([(⟨(⟨#[101,48]⟩:ByteArray),167772161,24,0,false,false,0,0,false,(⟨#[]⟩:ByteArray),(⟨#[]⟩:ByteArray),0⟩:Zx)]:List Zx),([]:List ZD),([]:List Xw),([]:List V2),([]:List YX),([]:List Yh),(⟨false,0,([]:List Wf),([]:List YB)⟩:Wv),(⟨false,0,(⟨#[]⟩:ByteArray),(⟨#[]⟩:ByteArray),([]:List YB)⟩:QA),(⟨false,0,0,([]:List VH),([]:List ZO),([]:List Wg),([]:List Wh),([]:List YB)⟩:Xb)⟩:Zf),(⟨(⟨#[98]⟩:ByteArray),0,([(⟨(⟨#[101,48]⟩:ByteArray),167772162,24,0,false,false,0,0,false,(⟨#[]⟩:ByteArray),(⟨#[]⟩:ByteArray),0⟩:Zx),(⟨(⟨#[101,49]⟩:ByteArray),167772418,24,0,false,false,0,0,false,(⟨#[]⟩:ByteArray),(⟨#[]⟩:ByteArray),0⟩:Zx)]:List Zx),([]:List ZD),([]:List Xw),([]:List V2),([]:List YX),([]:List Yh),(⟨false,0,([]:List Wf),([]:List YB)⟩:Wv),(⟨false,0,(⟨#[]⟩:ByteArray),(⟨#[]⟩:ByteArray),([]:List YB)⟩:QA),(⟨false,0,0,([]:List VH),([]:List ZO),([]:List Wg),([]:List Wh),([]:List YB)⟩:Xb)⟩:Zf)]:List Zf)⟩:ZP)
noncomputable def M.Yp (a0:List Ue) (a1:Ue) (p1:Int):Option (Int ⊕ (Unit ⊕ Int)) :=
 bif decide (p1 < (a0.length:Int)) then (gd [decide (0≤p1),decide (p1 < (a0.length:Int))] (bif ((a1.Zcl==((a0.getD p1.toNat default).Zcl))&&((a1.Jj==((a0.getD p1.toNat default).Jj))&&true)) then (some (.inr (.inr p1))) else (some (.inl (wr .i64 (p1+1)))))) else (some (.inr (.inl ())))
noncomputable def M.Yq (a0:List Ue) (a1:Ue):Option Int :=
 (loopM (M.Yp a0 a1) 0).bind fun y3=>Sum.elim (fun _=>some (-1)) (fun y5=>some y5) y3
noncomputable def M.Ya (a0:List Ue) (a1:Ue):Option Bool :=
 (M.Yq a0 a1).bind fun r1=>some (decide (r1 ≥ 0))
noncomputable def M.WK (a0:W2) (a1:Int) (a2:Int) (p1:Int):Option (Int ⊕ (Unit ⊕ Int)) :=
 bif decide (p1 < (a0.Uy.V3.length:Int)) then (gd [decide (0≤p1),decide (p1 < (a0.Uy.V3.length:Int))] ((M.Ya ((a0.Uy.V3.getD p1.toNat default).Xt) (⟨a1,a2⟩:Ue)).bind fun r3=>bif r3 then (some (.inr (.inr p1))) else (some (.inl (wr .i64 (p1+1)))))) else (some (.inr (.inl ())))
noncomputable def M.WL (a0:W2) (a1:Int) (a2:Int):Option Int :=
 (loopM (M.WK a0 a1 a2) 0).bind fun y4=>Sum.elim (fun _=>none) (fun y6=>some y6) y4
noncomputable def M.QT (a0:List Int) (a1:Int) (p1:Int):Option (Int ⊕ (Unit ⊕ Int)) :=
 bif decide (p1 < (a0.length:Int)) then (gd [decide (0≤p1),decide (p1 < (a0.length:Int))] (bif a1==(a0.getD p1.toNat default) then (some (.inr (.inr p1))) else (some (.inl (wr .i64 (p1+1)))))) else (some (.inr (.inl ())))
noncomputable def M.Qf (a0:List Int) (a1:Int):Option Int :=
 (loopM (M.QT a0 a1) 0).bind fun y3=>Sum.elim (fun _=>some (-1)) (fun y5=>some y5) y3
noncomputable def M.Gu (a0:W2) (a1:Int) (a2:Int):Option Int :=
 (M.WL a0 a1 a2).bind fun r1=>bif decide (r1 < 0) then none else ((M.Qf a0.Uy.Wr r1).bind fun r2=>some r2)
noncomputable def M.Qi (a0:List Int) (a1:Int):Option Bool :=
 (M.Qf a0 a1).bind fun r1=>some (decide (r1 ≥ 0))
noncomputable def M.Gv (a0:W2) (a1:Int) (a2:Int):Option Bool :=
 (M.WL a0 a1 a2).bind fun r1=>bif decide (r1 < 0) then none else ((M.Gu a0 a1 a2).bind fun r2=>(gc (!(decide (r2 < 0))) (M.Qi a0.RB r2)).bind fun r3=>some ((decide (r2 < 0))||(!r3)))
noncomputable def M.Wy :Option Bool :=
 (M.W8).bind fun r1=>(M.WM r1 ([]:List Int)).bind fun r2=>(M.W8).bind fun r3=>(M.WM r3 ([0]:List Int)).bind fun r4=>(gc ((((r2.2==0)&&(r4.2==0))&&((r2.1.Uy.V3.length:Int)==2))&&((r2.1.Uy.Wr.length:Int)==1)) (M.Gv r2.1 0 0)).bind fun r5=>(gc (((((r2.2==0)&&(r4.2==0))&&((r2.1.Uy.V3.length:Int)==2))&&((r2.1.Uy.Wr.length:Int)==1))&&r5) (M.Gv r4.1 0 0)).bind fun r6=>(gc ((((((r2.2==0)&&(r4.2==0))&&((r2.1.Uy.V3.length:Int)==2))&&((r2.1.Uy.Wr.length:Int)==1))&&r5)&&(!r6)) (M.Gv r4.1 1 1)).bind fun r7=>some (((((((r2.2==0)&&(r4.2==0))&&((r2.1.Uy.V3.length:Int)==2))&&((r2.1.Uy.Wr.length:Int)==1))&&r5)&&(!r6))&&r7)
noncomputable def M.J2 (a1:List Int) (r3:(List (List Int)) × Int) (p5:Bool × Int):Option ((Bool × Int) ⊕ Bool) :=
 bif decide (p5.2 < (r3.1.length:Int)) then ((gc (!p5.1) (M.R7 (r3.1.getD p5.2.toNat default) a1)).bind fun r7=>gd [guardB (!p5.1) (decide (0≤p5.2)),guardB (!p5.1) (decide (p5.2 < (r3.1.length:Int)))] (some (.inl (p5.1||r7,wr .i64 (p5.2+1))))) else (some (.inr p5.1))
noncomputable def M.Uc (a0:ZP) (a1:List Int):Option Bool :=
 (M.VA a0).bind fun r1=>bif (!r1)||(decide ((a1.length:Int) > 6)) then (some true) else ((M.GW a0).bind fun r2=>bif r2.2 != 0 then (some true) else ((M.We (r2.1.Wr.length:Int) 2).bind fun r3=>(M.WM a0 a1).bind fun r4=>(loopM (M.J2 a1 r3) (false,0)).bind fun y8=>(gc ((r3.2==0)&&(y8==(r4.2==0))) M.Wy).bind fun r9=>some (((r3.2==0)&&(y8==(r4.2==0)))&&r9)))
end Nv
