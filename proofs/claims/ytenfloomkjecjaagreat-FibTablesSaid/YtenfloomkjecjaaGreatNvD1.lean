/- The mirrors: what each function of the given program computes, in plain terms. -/
import Derived.Test.YtenfloomkjecjaaGreatNvLibB
import Derived.Test.YtenfloomkjecjaaGreatNvLibD
import Derived.Test.YtenfloomkjecjaaGreatNvLibC
set_option maxRecDepth 100000
namespace Nv
open Go
structure ZA where
 XG:ByteArray
 Zm:Int
 ZE:Int
 XN:Int
 Jx:Bool
 YC:Bool
 WS:Int
 ZdL:Int
 YK:Bool
 WH:ByteArray
 Qz:ByteArray
 Zbj:Int
 deriving Inhabited
def Zl (x:ZA):List D:=[.str x.XG,.int .u32 x.Zm,.int .i64 x.ZE,.int .i64 x.XN,.bool x.Jx,.bool x.YC,.int .i64 x.WS,.int .i64 x.ZdL,.bool x.YK,.str x.WH,.str x.Qz,.int .i64 x.Zbj]
structure ZL where
 Zm:Int
 ZE:Int
 deriving Inhabited
def Xd (x:ZL):List D:=[.int .u32 x.Zm,.int .i64 x.ZE]
structure Gc where
 ZdM:Bool
 Zh:ZL
 Zk7:Int
 Zk8:Int
 deriving Inhabited
def Ru (x:Gc):List D:=[.bool x.ZdM,.int .u32 x.Zh.Zm,.int .i64 x.Zh.ZE,.int .i64 x.Zk7,.int .i64 x.Zk8]
structure Z1 where
 XG:ByteArray
 Y7:List Gc
 deriving Inhabited
def Zx (x:Z1):List D:=[.str x.XG,sL 5 Ru x.Y7]
structure Zb7 where
 ZdM:Bool
 VO:ByteArray
 UP:Int
 K3:Int
 ZdN:Int
 Zbk:Int
 Zbl:Int
 deriving Inhabited
def Zhw (x:Zb7):List D:=[.bool x.ZdM,.str x.VO,.int .i64 x.UP,.int .i64 x.K3,.int .i64 x.ZdN,.int .i64 x.Zbk,.int .i64 x.Zbl]
structure Yt where
 XG:ByteArray
 Ya:List Zb7
 deriving Inhabited
def ZX (x:Yt):List D:=[.str x.XG,sL 7 Zhw x.Ya]
structure Zb8 where
 Zm:Int
 KM:Int
 deriving Inhabited
def Zi9 (x:Zb8):List D:=[.int .u32 x.Zm,.int .u32 x.KM]
structure WA where
 RJ:Int
 fHi:Int
 deriving Inhabited
def Zaf (x:WA):List D:=[.int .i64 x.RJ,.int .i64 x.fHi]
structure Zgu where
 ZdM:Bool
 XR:Int
 ZcX:Zb8
 ZcY:Zb8
 Gj:WA
 Gk:WA
 deriving Inhabited
def Zh1 (x:Zgu):List D:=[.bool x.ZdM,.int .i64 x.XR,.int .u32 x.ZcX.Zm,.int .u32 x.ZcX.KM,.int .u32 x.ZcY.Zm,.int .u32 x.ZcY.KM,.int .i64 x.Gj.RJ,.int .i64 x.Gj.fHi,.int .i64 x.Gk.RJ,.int .i64 x.Gk.fHi]
structure U6 where
 XG:ByteArray
 Y7:List Zgu
 deriving Inhabited
def YU (x:U6):List D:=[.str x.XG,sL 10 Zh1 x.Y7]
structure QF where
 Up:Int
 Vi:Int
 Q3:Int
 XR:Int
 VA:Int
 JY:Int
 VO:ByteArray
 RJ:Int
 fHi:Int
 deriving Inhabited
def Z2 (x:QF):List D:=[.int .i64 x.Up,.int .u32 x.Vi,.int .u32 x.Q3,.int .i64 x.XR,.int .i64 x.VA,.int .i64 x.JY,.str x.VO,.int .u32 x.RJ,.int .u32 x.fHi]
structure X8 where
 Zh:ZL
 YF:Int
 ZP:ByteArray
 ZS:Bool
 Z5:Int
 UP:Int
 deriving Inhabited
def ZU (x:X8):List D:=[.int .u32 x.Zh.Zm,.int .i64 x.Zh.ZE,.int .u32 x.YF,.str x.ZP,.bool x.ZS,.int .i64 x.Z5,.int .i64 x.UP]
structure V9 where
 WS:Int
 Zh:ZL
 deriving Inhabited
def XJ (x:V9):List D:=[.int .i64 x.WS,.int .u32 x.Zh.Zm,.int .i64 x.Zh.ZE]
structure QB where
 W3:Int
 Qk:Int
 UP:Int
 Zex:ByteArray
 Ze8:Int
 deriving Inhabited
def ZB (x:QB):List D:=[.int .i64 x.W3,.int .i64 x.Qk,.int .i64 x.UP,.str x.Zex,.int .i64 x.Ze8]
structure WB where
 Wr:Bool
 Z5:Int
 Z6:List V9
 Zu:List QB
 deriving Inhabited
def ZdO (x:WB):List D:=[.bool x.Wr,.int .i64 x.Z5,sL 3 XJ x.Z6,sL 5 ZB x.Zu]
structure Qi where
 Wr:Bool
 Z5:Int
 WH:ByteArray
 Qz:ByteArray
 Zu:List QB
 deriving Inhabited
def ZdP (x:Qi):List D:=[.bool x.Wr,.int .i64 x.Z5,.str x.WH,.str x.Qz,sL 5 ZB x.Zu]
structure VB where
 Zm:Int
 KQ:Int
 WH:ByteArray
 Qz:ByteArray
 deriving Inhabited
def XU (x:VB):List D:=[.int .u32 x.Zm,.int .i64 x.KQ,.str x.WH,.str x.Qz]
structure Wa where
 Zh:ZL
 ZoE:Bool
 deriving Inhabited
def XK (x:Wa):List D:=[.int .u32 x.Zh.Zm,.int .i64 x.Zh.ZE,.bool x.ZoE]
structure Wb where
 Zh:ZL
 fIf:ZL
 ZnQ:Bool
 deriving Inhabited
def XC (x:Wb):List D:=[.int .u32 x.Zh.Zm,.int .i64 x.Zh.ZE,.int .u32 x.fIf.Zm,.int .i64 x.fIf.ZE,.bool x.ZnQ]
structure XO where
 Wr:Bool
 X6:Int
 X7:Int
 Zp:List VB
 ZY:List ZL
 ZG:List Wa
 Zv:List Wb
 Zu:List QB
 deriving Inhabited
def Kt (x:XO):List D:=[.bool x.Wr,.int .i64 x.X6,.int .i64 x.X7,sL 4 XU x.Zp,sL 2 Xd x.ZY,sL 3 XK x.ZG,sL 5 XC x.Zv,sL 5 ZB x.Zu]
structure Zi where
 XG:ByteArray
 KQ:Int
 Zc:List ZA
 YV:List Z1
 XP:List Yt
 Y5:List U6
 Xf:List QF
 Zq:List X8
 YC:WB
 YK:Qi
 Xz:XO
 deriving Inhabited
def Zs (x:Zi):List D:=[.str x.XG,.int .i64 x.KQ,sL 12 Zl x.Zc,sL 2 Zx x.YV,sL 2 ZX x.XP,sL 2 YU x.Y5,sL 9 Z2 x.Xf,sL 7 ZU x.Zq,.bool x.YC.Wr,.int .i64 x.YC.Z5,sL 3 XJ x.YC.Z6,sL 5 ZB x.YC.Zu,.bool x.YK.Wr,.int .i64 x.YK.Z5,.str x.YK.WH,.str x.YK.Qz,sL 5 ZB x.YK.Zu,.bool x.Xz.Wr,.int .i64 x.Xz.X6,.int .i64 x.Xz.X7,sL 4 XU x.Xz.Zp,sL 2 Xd x.Xz.ZY,sL 3 XK x.Xz.ZG,sL 5 XC x.Xz.Zv,sL 5 ZB x.Xz.Zu]
structure ZI where
 Ze:List Zi
 deriving Inhabited
def Yb (x:ZI):List D:=[sL 25 Zs x.Ze]
structure ZF where
 ZP:Int
 Zm:Int
 deriving Inhabited
def ZN (x:ZF):List D:=[.int .i64 x.ZP,.int .u32 x.Zm]
structure ZM where
 Zh:ZL
 XR:Int
 Yj:Int
 Z5:Int
 Qk:Int
 Zag:Int
 UP:Int
 Zgv:Int
 Ua:List Int
 W3:Int
 YF:Int
 ZQ:List ZF
 ZS:Bool
 deriving Inhabited
def X1 (x:ZM):List D:=[.int .u32 x.Zh.Zm,.int .i64 x.Zh.ZE,.int .i64 x.XR,.int .i64 x.Yj,.int .i64 x.Z5,.int .i64 x.Qk,.int .i64 x.Zag,.int .i64 x.UP,.int .i64 x.Zgv,sL 1 (ci .i64) x.Ua,.int .u32 x.W3,.int .u32 x.YF,sL 2 ZN x.ZQ,.bool x.ZS]
structure VL where
 UQ:Int
 ZP:Int
 deriving Inhabited
def Xo (x:VL):List D:=[.int .i64 x.UQ,.int .i64 x.ZP]
structure Zj where
 Zh:ZL
 XN:Int
 ZW:List VL
 deriving Inhabited
def Z0 (x:Zj):List D:=[.int .u32 x.Zh.Zm,.int .i64 x.Zh.ZE,.int .i64 x.XN,sL 2 Xo x.ZW]
structure JZ where
 Xe:List Zj
 J0:List Int
 deriving Inhabited
def Rn (x:JZ):List D:=[sL 4 Z0 x.Xe,sL 1 (ci .i64) x.J0]
structure XL where
 Zcb:ZI
 Yf:JZ
 Jx:List Int
 deriving Inhabited
def XD (x:XL):List D:=[sL 25 Zs x.Zcb.Ze,sL 4 Z0 x.Yf.Xe,sL 1 (ci .i64) x.Yf.J0,sL 1 (ci .i64) x.Jx]
structure Xx where
 Zh:ZL
 ZQ:List ZF
 ZS:Bool
 deriving Inhabited
def Yh (x:Xx):List D:=[.int .u32 x.Zh.Zm,.int .i64 x.Zh.ZE,sL 2 ZN x.ZQ,.bool x.ZS]
structure Xb where
 Zb9:ZL
 ZmI:Int
 deriving Inhabited
def Z7 (x:Xb):List D:=[.int .u32 x.Zb9.Zm,.int .i64 x.Zb9.ZE,.int .i64 x.ZmI]
def hdDom (x:Zj):List D:=[.int .u32 x.Zh.Zm,.int .i64 x.Zh.ZE,.int .i64 x.XN]
def topoKeyEq (a b:Xb):Bool:=(((a.Zb9.Zm==b.Zb9.Zm)&&((a.Zb9.ZE==b.Zb9.ZE)&&true))&&((a.ZmI==b.ZmI)&&true))
noncomputable def M.Wj (a0:Zi) (p1:Int):Option (Int ⊕ (Unit ⊕ Bool)) :=
 bif decide (p1 < (a0.YV.length:Int)) then (gd [decide (0≤p1),decide (p1 < (a0.YV.length:Int))] (bif decide ((((a0.YV.getD p1.toNat default).Y7).length:Int) > 20) then (some (.inr (.inr false))) else (some (.inl (wr .i64 (p1+1)))))) else (some (.inr (.inl ())))
noncomputable def M.Wk (a0:Zi) (p6:Int):Option (Int ⊕ (Unit ⊕ Bool)) :=
 bif decide (p6 < (a0.XP.length:Int)) then (gd [decide (0≤p6),decide (p6 < (a0.XP.length:Int))] (bif decide ((((a0.XP.getD p6.toNat default).Ya).length:Int) > 12) then (some (.inr (.inr false))) else (some (.inl (wr .i64 (p6+1)))))) else (some (.inr (.inl ())))
noncomputable def M.Wl (a0:Zi) (p11:Int):Option (Int ⊕ (Unit ⊕ Bool)) :=
 bif decide (p11 < (a0.Y5.length:Int)) then (gd [decide (0≤p11),decide (p11 < (a0.Y5.length:Int))] (bif decide ((((a0.Y5.getD p11.toNat default).Y7).length:Int) > 20) then (some (.inr (.inr false))) else (some (.inl (wr .i64 (p11+1)))))) else (some (.inr (.inl ())))
noncomputable def M.Wc (a0:Zi):Option Bool :=
 bif (((((((((((((decide ((a0.Zc.length:Int) > 12))||(decide ((a0.YV.length:Int) > 12)))||(decide ((a0.XP.length:Int) > 12)))||(decide ((a0.Y5.length:Int) > 12)))||(decide ((a0.Xf.length:Int) > 12)))||(decide ((a0.Zq.length:Int) > 20)))||(decide ((a0.YC.Z6.length:Int) > 8)))||(decide ((a0.YC.Zu.length:Int) > 8)))||(decide ((a0.YK.Zu.length:Int) > 8)))||(decide ((a0.Xz.Zu.length:Int) > 8)))||(decide ((a0.Xz.Zp.length:Int) > 12)))||(decide ((a0.Xz.ZY.length:Int) > 12)))||(decide ((a0.Xz.ZG.length:Int) > 12)))||(decide ((a0.Xz.Zv.length:Int) > 12)) then (some false) else ((loopM (M.Wj a0) 0).bind fun y3=>Sum.elim (fun _=>(loopM (M.Wk a0) 0).bind fun y8=>Sum.elim (fun _=>(loopM (M.Wl a0) 0).bind fun y13=>Sum.elim (fun _=>some true) (fun y15=>some y15) y13) (fun y10=>some y10) y8) (fun y5=>some y5) y3)
noncomputable def M.QO (a0:ZI) (p1:Int):Option (Int ⊕ (Unit ⊕ Bool)) :=
 bif decide (p1 < (a0.Ze.length:Int)) then ((M.Wc (a0.Ze.getD p1.toNat default)).bind fun r3=>gd [decide (0≤p1),decide (p1 < (a0.Ze.length:Int))] (bif !r3 then (some (.inr (.inr false))) else (some (.inl (wr .i64 (p1+1)))))) else (some (.inr (.inl ())))
noncomputable def M.VC (a0:ZI):Option Bool :=
 bif decide ((a0.Ze.length:Int) > 9) then (some false) else ((loopM (M.QO a0) 0).bind fun y4=>Sum.elim (fun _=>some true) (fun y6=>some y6) y4)
noncomputable def M.Ws (a0:Int):Option Bool :=
 some (((decide (a0 ≥ 97))&&(decide (a0≤122)))||((decide (a0 ≥ 65))&&(decide (a0≤90))))
noncomputable def M.WI (a0:ByteArray) (p2:Int):Option (Int ⊕ (Unit ⊕ Bool)) :=
 bif decide (p2 < (a0.size:Int)) then (gd [decide (0≤p2),decide (p2 < (a0.size:Int))] ((M.Ws (byteAt a0 p2)).bind fun r4=>bif (((((!r4)&&(!((decide ((byteAt a0 p2) ≥ 48))&&(decide ((byteAt a0 p2)≤57)))))&&((byteAt a0 p2) != 45))&&((byteAt a0 p2) != 95))&&((byteAt a0 p2) != 47))&&((byteAt a0 p2) != 46) then (some (.inr (.inr false))) else (some (.inl (wr .i64 (p2+1)))))) else (some (.inr (.inl ())))
noncomputable def M.Jy (a0:ByteArray):Option Bool :=
 (gc (!((decide ((a0.size:Int) < 1))||(decide ((a0.size:Int) > 15)))) (M.Ws (byteAt a0 0))).bind fun r1=>gd [guardB (!((decide ((a0.size:Int) < 1))||(decide ((a0.size:Int) > 15)))) (decide (0≤0)),guardB (!((decide ((a0.size:Int) < 1))||(decide ((a0.size:Int) > 15)))) (decide (0 < (a0.size:Int)))] (bif ((decide ((a0.size:Int) < 1))||(decide ((a0.size:Int) > 15)))||(!r1) then (some false) else ((loopM (M.WI a0) 1).bind fun y5=>Sum.elim (fun _=>some true) (fun y7=>some y7) y5))
noncomputable def M.ZT (a0:Int) (a1:Int) (a2:Int):Option Bool :=
 some ((decide (a1≤a0))&&(decide (a0≤a2)))
noncomputable def M.G4 (p1:Int × Int) (p3:Int):Option ((Int × Int) ⊕ Int) :=
 some (.inl (p3,wr .i64 (p1.2+1)))
noncomputable def M.UR (a0:Int) (p1:Int × Int):Option ((Int × Int) ⊕ Int) :=
 bif decide (p1.2 < 32) then (bif decide (p1.2 < a0) then (gd [decide (0≤(wr .u64 (wr .i64 (31 - p1.2))))] (M.G4 p1 (bitD .or .u32 p1.1 (wr .u32 (1*2 ^ min (wr .u64 (wr .i64 (31 - p1.2))).toNat 32))))) else (M.G4 p1 p1.1)) else (some (.inr p1.1))
noncomputable def M.J1 (a0:Int):Option Int :=
 (loopM (M.UR a0) (0,0)).bind fun y4=>some y4
noncomputable def M.QY (a0:Int) (a1:Int):Option ZL :=
 (M.J1 (if 0 > (if 32 < a1 then 32 else a1) then 0 else (if 32 < a1 then 32 else a1))).bind fun r1=>some (⟨bitD .and .u32 a0 r1,if 0 > (if 32 < a1 then 32 else a1) then 0 else (if 32 < a1 then 32 else a1)⟩:ZL)
noncomputable def M.Jf (a0:ZL) (a1:Int):Option Bool :=
 (M.J1 a0.ZE).bind fun r1=>some ((bitD .and .u32 a1 r1)==a0.Zm)
noncomputable def M.VD (a0:ZL) (a1:ZL):Option Bool :=
 (gc (decide (a0.ZE≤a1.ZE)) (M.Jf a0 a1.Zm)).bind fun r1=>some ((decide (a0.ZE≤a1.ZE))&&r1)
noncomputable def M.QR (a0:ZL) (a1:ZL):Option Bool :=
 (M.VD a0 a1).bind fun r1=>(gc (!r1) (M.VD a1 a0)).bind fun r2=>some (r1||r2)
noncomputable def M.Y8 (a0:List ZA) (p1:Int) (p4:Int):Option (Int ⊕ (Unit ⊕ Int)) :=
 bif decide (p4 < p1) then (gd [decide (0≤p4),decide (p4 < (a0.length:Int))] (bif strEq ((a0.getD p4.toNat default).XG) ((a0.getD p1.toNat default).XG) then (some (.inr (.inr 4))) else (some (.inl (wr .i64 (p4+1)))))) else (some (.inr (.inl ())))
noncomputable def M.YL (a0:List ZA) (p1:Int) (p14:Int):Option (Int ⊕ (Unit ⊕ Int)) :=
 bif decide (p14 < p1) then ((gc ((((a0.getD p1.toNat default).ZE) != 0)&&(((a0.getD p14.toNat default).ZE) != 0)) (M.QY ((a0.getD p1.toNat default).Zm) ((a0.getD p1.toNat default).ZE))).bind fun r16=>(gc ((((a0.getD p1.toNat default).ZE) != 0)&&(((a0.getD p14.toNat default).ZE) != 0)) (M.QY ((a0.getD p14.toNat default).Zm) ((a0.getD p14.toNat default).ZE))).bind fun r17=>(gc ((((a0.getD p1.toNat default).ZE) != 0)&&(((a0.getD p14.toNat default).ZE) != 0)) (M.QR r16 r17)).bind fun r18=>gd [guardB (((a0.getD p1.toNat default).ZE) != 0) (decide (0≤p14)),guardB (((a0.getD p1.toNat default).ZE) != 0) (decide (p14 < (a0.length:Int))),guardB ((((a0.getD p1.toNat default).ZE) != 0)&&(((a0.getD p14.toNat default).ZE) != 0)) (decide (0≤p14)),guardB ((((a0.getD p1.toNat default).ZE) != 0)&&(((a0.getD p14.toNat default).ZE) != 0)) (decide (p14 < (a0.length:Int))),guardB ((((a0.getD p1.toNat default).ZE) != 0)&&(((a0.getD p14.toNat default).ZE) != 0)) (decide (0≤p14)),guardB ((((a0.getD p1.toNat default).ZE) != 0)&&(((a0.getD p14.toNat default).ZE) != 0)) (decide (p14 < (a0.length:Int)))] (bif ((((a0.getD p1.toNat default).ZE) != 0)&&(((a0.getD p14.toNat default).ZE) != 0))&&r18 then (some (.inr (.inr 6))) else (some (.inl (wr .i64 (p14+1)))))) else (some (.inr (.inl ())))
noncomputable def M.YM (a0:List ZA) (p1:Int):Option (Int ⊕ (Unit ⊕ Int)) :=
 bif decide (p1 < (a0.length:Int)) then (gd [decide (0≤p1),decide (p1 < (a0.length:Int))] ((M.Jy ((a0.getD p1.toNat default).XG)).bind fun r3=>bif !r3 then (some (.inr (.inr 3))) else ((loopM (M.Y8 a0 p1) 0).bind fun y6=>Sum.elim (fun _=>(M.ZT ((a0.getD p1.toNat default).ZE) 0 32).bind fun r9=>(gc (!(!r9)) (M.ZT ((a0.getD p1.toNat default).XN) 0 4094)).bind fun r10=>(gc (!((!r9)||(!r10))) (M.ZT ((a0.getD p1.toNat default).Zbj) 0 2)).bind fun r11=>bif ((!r9)||(!r10))||(!r11) then (some (.inr (.inr 1))) else (bif ((((a0.getD p1.toNat default).ZE)==0)&&(((((((((a0.getD p1.toNat default).Zm) != 0)||(((a0.getD p1.toNat default).XN) != 0))||(((a0.getD p1.toNat default).Zbj) != 0))||((a0.getD p1.toNat default).YC))||((a0.getD p1.toNat default).YK))||(!strEq ((a0.getD p1.toNat default).WH) (⟨#[]⟩:ByteArray)))||(!strEq ((a0.getD p1.toNat default).Qz) (⟨#[]⟩:ByteArray))))||((((a0.getD p1.toNat default).ZE) != 0)&&(((a0.getD p1.toNat default).Zm)==0)) then (some (.inr (.inr 1))) else ((gc ((a0.getD p1.toNat default).YC) (M.ZT ((a0.getD p1.toNat default).WS) 0 255)).bind fun r12=>(gc (((a0.getD p1.toNat default).YC) && !(!r12)) (M.ZT ((a0.getD p1.toNat default).ZdL) 1 65535)).bind fun r13=>bif (((a0.getD p1.toNat default).YC)&&((!r12)||(!r13)))||((!((a0.getD p1.toNat default).YC))&&((((a0.getD p1.toNat default).WS) != 0)||(((a0.getD p1.toNat default).ZdL) != 0))) then (some (.inr (.inr 1))) else ((loopM (M.YL a0 p1) 0).bind fun y19=>Sum.elim (fun _=>some (.inl (wr .i64 (p1+1)))) (fun y21=>some (.inr (.inr y21))) y19)))) (fun y8=>some (.inr (.inr y8))) y6))) else (some (.inr (.inl ())))
noncomputable def M.Yx (a0:List ZA):Option Int :=
 bif decide ((a0.length:Int) > 8) then (some 7) else ((loopM (M.YM a0) 0).bind fun y22=>Sum.elim (fun _=>some 0) (fun y24=>some y24) y22)
noncomputable def M.Y9 (a0:ZL):Option Bool :=
 (gc ((decide (a0.ZE ≥ 0))&&(decide (a0.ZE≤32))) (M.J1 a0.ZE)).bind fun r1=>some (((decide (a0.ZE ≥ 0))&&(decide (a0.ZE≤32)))&&((bitD .andNot .u32 a0.Zm r1)==0))
noncomputable def M.Ql (a0:Gc):Option Bool :=
 (M.Y9 a0.Zh).bind fun r1=>some (((r1&&(decide (a0.Zh.ZE≤a0.Zk7)))&&(decide (a0.Zk7≤a0.Zk8)))&&(decide (a0.Zk8≤32)))
noncomputable def M.QG (a0:List Z1) (p1:Int) (p4:Int):Option (Int ⊕ (Unit ⊕ Int)) :=
 bif decide (p4 < p1) then (gd [decide (0≤p4),decide (p4 < (a0.length:Int)),decide (0≤p1),decide (p1 < (a0.length:Int))] (bif strEq ((a0.getD p4.toNat default).XG) ((a0.getD p1.toNat default).XG) then (some (.inr (.inr 4))) else (some (.inl (wr .i64 (p4+1)))))) else (some (.inr (.inl ())))
noncomputable def M.QH (a0:List Z1) (p1:Int) (p9:Int):Option (Int ⊕ (Unit ⊕ Int)) :=
 gd [decide (0≤p1),decide (p1 < (a0.length:Int))] (bif decide (p9 < (((a0.getD p1.toNat default).Y7).length:Int)) then ((M.Ql (((a0.getD p1.toNat default).Y7).getD p9.toNat default)).bind fun r11=>gd [decide (0≤p1),decide (p1 < (a0.length:Int)),decide (0≤p9),decide (p9 < (((a0.getD p1.toNat default).Y7).length:Int))] (bif !r11 then (some (.inr (.inr 1))) else (some (.inl (wr .i64 (p9+1)))))) else (some (.inr (.inl ()))))
noncomputable def M.QI (a0:List Z1) (p1:Int):Option (Int ⊕ (Unit ⊕ Int)) :=
 bif decide (p1 < (a0.length:Int)) then ((M.Jy ((a0.getD p1.toNat default).XG)).bind fun r3=>gd [decide (0≤p1),decide (p1 < (a0.length:Int))] (bif !r3 then (some (.inr (.inr 3))) else ((loopM (M.QG a0 p1) 0).bind fun y6=>Sum.elim (fun _=>gd [decide (0≤p1),decide (p1 < (a0.length:Int))] (bif (((a0.getD p1.toNat default).Y7).length:Int)==0 then (some (.inr (.inr 1))) else (gd [decide (0≤p1),decide (p1 < (a0.length:Int))] (bif decide ((((a0.getD p1.toNat default).Y7).length:Int) > 16) then (some (.inr (.inr 7))) else ((loopM (M.QH a0 p1) 0).bind fun y12=>Sum.elim (fun _=>some (.inl (wr .i64 (p1+1)))) (fun y14=>some (.inr (.inr y14))) y12))))) (fun y8=>some (.inr (.inr y8))) y6))) else (some (.inr (.inl ())))
noncomputable def M.QP (a0:List Z1):Option Int :=
 bif decide ((a0.length:Int) > 8) then (some 7) else ((loopM (M.QI a0) 0).bind fun y15=>Sum.elim (fun _=>some 0) (fun y17=>some y17) y15)
noncomputable def M.QZ (a0:Zi) (a1:ByteArray) (p1:Int):Option (Int ⊕ (Unit ⊕ Int)) :=
 bif decide (p1 < (a0.YV.length:Int)) then (gd [decide (0≤p1),decide (p1 < (a0.YV.length:Int))] (bif strEq ((a0.YV.getD p1.toNat default).XG) a1 then (some (.inr (.inr p1))) else (some (.inl (wr .i64 (p1+1)))))) else (some (.inr (.inl ())))
noncomputable def M.Qj (a0:Zi) (a1:ByteArray):Option Int :=
 (loopM (M.QZ a0 a1) 0).bind fun y3=>Sum.elim (fun _=>some (-1)) (fun y5=>some y5) y3
noncomputable def M.Jl (a0:Zi) (p1:Int) (p4:Int):Option (Int ⊕ (Unit ⊕ Int)) :=
 bif decide (p4 < p1) then (gd [decide (0≤p4),decide (p4 < (a0.XP.length:Int)),decide (0≤p1),decide (p1 < (a0.XP.length:Int))] (bif strEq ((a0.XP.getD p4.toNat default).XG) ((a0.XP.getD p1.toNat default).XG) then (some (.inr (.inr 4))) else (some (.inl (wr .i64 (p4+1)))))) else (some (.inr (.inl ())))
noncomputable def M.Jm (a0:Zi) (p1:Int) (p9:Int):Option (Int ⊕ (Unit ⊕ Int)) :=
 gd [decide (0≤p1),decide (p1 < (a0.XP.length:Int))] (bif decide (p9 < (((a0.XP.getD p1.toNat default).Ya).length:Int)) then (gd [decide (0≤p1),decide (p1 < (a0.XP.length:Int)),decide (0≤p9),decide (p9 < (((a0.XP.getD p1.toNat default).Ya).length:Int))] ((gc (!strEq ((((a0.XP.getD p1.toNat default).Ya).getD p9.toNat default).VO) (⟨#[]⟩:ByteArray)) (M.Qj a0 ((((a0.XP.getD p1.toNat default).Ya).getD p9.toNat default).VO))).bind fun r11=>bif (!strEq ((((a0.XP.getD p1.toNat default).Ya).getD p9.toNat default).VO) (⟨#[]⟩:ByteArray))&&(decide (r11 < 0)) then (some (.inr (.inr 5))) else ((M.ZT ((((a0.XP.getD p1.toNat default).Ya).getD p9.toNat default).UP) (-1) 65535).bind fun r12=>(gc (!(!r12)) (M.ZT ((((a0.XP.getD p1.toNat default).Ya).getD p9.toNat default).ZdN) (-1) 65535)).bind fun r13=>(gc (!((!r12)||(!r13))) (M.ZT ((((a0.XP.getD p1.toNat default).Ya).getD p9.toNat default).K3) (-1) 16777215)).bind fun r14=>(gc (!(((!r12)||(!r13))||(!r14))) (M.ZT ((((a0.XP.getD p1.toNat default).Ya).getD p9.toNat default).Zbk) (-1) 1000000)).bind fun r15=>(gc (!((((!r12)||(!r13))||(!r14))||(!r15))) (M.ZT ((((a0.XP.getD p1.toNat default).Ya).getD p9.toNat default).Zbl) 0 8)).bind fun r16=>bif ((((!r12)||(!r13))||(!r14))||(!r15))||(!r16) then (some (.inr (.inr 1))) else (some (.inl (wr .i64 (p9+1))))))) else (some (.inr (.inl ()))))
noncomputable def M.Jn (a0:Zi) (p1:Int):Option (Int ⊕ (Unit ⊕ Int)) :=
 bif decide (p1 < (a0.XP.length:Int)) then ((M.Jy ((a0.XP.getD p1.toNat default).XG)).bind fun r3=>gd [decide (0≤p1),decide (p1 < (a0.XP.length:Int))] (bif !r3 then (some (.inr (.inr 3))) else ((loopM (M.Jl a0 p1) 0).bind fun y6=>Sum.elim (fun _=>gd [decide (0≤p1),decide (p1 < (a0.XP.length:Int))] (bif (((a0.XP.getD p1.toNat default).Ya).length:Int)==0 then (some (.inr (.inr 1))) else (gd [decide (0≤p1),decide (p1 < (a0.XP.length:Int))] (bif decide ((((a0.XP.getD p1.toNat default).Ya).length:Int) > 8) then (some (.inr (.inr 7))) else ((loopM (M.Jm a0 p1) 0).bind fun y17=>Sum.elim (fun _=>some (.inl (wr .i64 (p1+1)))) (fun y19=>some (.inr (.inr y19))) y17))))) (fun y8=>some (.inr (.inr y8))) y6))) else (some (.inr (.inl ())))
noncomputable def M.JB (a0:Zi):Option Int :=
 bif decide ((a0.XP.length:Int) > 8) then (some 7) else ((loopM (M.Jn a0) 0).bind fun y20=>Sum.elim (fun _=>some 0) (fun y22=>some y22) y20)
noncomputable def M.WT (a0:WA):Option Bool :=
 some (((decide (0≤a0.RJ))&&(decide (a0.RJ≤a0.fHi)))&&(decide (a0.fHi≤65535)))
noncomputable def M.Gd (a0:WA):Option Bool :=
 some ((a0.RJ==0)&&((a0.fHi==65535)&&true))
noncomputable def M.VP (a0:Zgu):Option Bool :=
 (M.ZT a0.XR (-1) 255).bind fun r1=>(gc (!(((!r1)||((bitD .and .u32 a0.ZcX.Zm a0.ZcX.KM) != 0))||((bitD .and .u32 a0.ZcY.Zm a0.ZcY.KM) != 0))) (M.WT a0.Gj)).bind fun r2=>(gc (!((((!r1)||((bitD .and .u32 a0.ZcX.Zm a0.ZcX.KM) != 0))||((bitD .and .u32 a0.ZcY.Zm a0.ZcY.KM) != 0))||(!r2))) (M.WT a0.Gk)).bind fun r3=>bif ((((!r1)||((bitD .and .u32 a0.ZcX.Zm a0.ZcX.KM) != 0))||((bitD .and .u32 a0.ZcY.Zm a0.ZcY.KM) != 0))||(!r2))||(!r3) then (some false) else ((gc (!((a0.XR==6)||(a0.XR==17))) (M.Gd a0.Gj)).bind fun r4=>(gc ((!((a0.XR==6)||(a0.XR==17)))&&r4) (M.Gd a0.Gk)).bind fun r5=>some (((a0.XR==6)||(a0.XR==17))||(r4&&r5)))
noncomputable def M.QJ (a0:List U6) (p1:Int) (p4:Int):Option (Int ⊕ (Unit ⊕ Int)) :=
 bif decide (p4 < p1) then (gd [decide (0≤p4),decide (p4 < (a0.length:Int)),decide (0≤p1),decide (p1 < (a0.length:Int))] (bif strEq ((a0.getD p4.toNat default).XG) ((a0.getD p1.toNat default).XG) then (some (.inr (.inr 4))) else (some (.inl (wr .i64 (p4+1)))))) else (some (.inr (.inl ())))
noncomputable def M.QL (a0:List U6) (p1:Int) (p9:Int):Option (Int ⊕ (Unit ⊕ Int)) :=
 gd [decide (0≤p1),decide (p1 < (a0.length:Int))] (bif decide (p9 < (((a0.getD p1.toNat default).Y7).length:Int)) then ((M.VP (((a0.getD p1.toNat default).Y7).getD p9.toNat default)).bind fun r11=>gd [decide (0≤p1),decide (p1 < (a0.length:Int)),decide (0≤p9),decide (p9 < (((a0.getD p1.toNat default).Y7).length:Int))] (bif !r11 then (some (.inr (.inr 1))) else (some (.inl (wr .i64 (p9+1)))))) else (some (.inr (.inl ()))))
noncomputable def M.QM (a0:List U6) (p1:Int):Option (Int ⊕ (Unit ⊕ Int)) :=
 bif decide (p1 < (a0.length:Int)) then ((M.Jy ((a0.getD p1.toNat default).XG)).bind fun r3=>gd [decide (0≤p1),decide (p1 < (a0.length:Int))] (bif !r3 then (some (.inr (.inr 3))) else ((loopM (M.QJ a0 p1) 0).bind fun y6=>Sum.elim (fun _=>gd [decide (0≤p1),decide (p1 < (a0.length:Int))] (bif (((a0.getD p1.toNat default).Y7).length:Int)==0 then (some (.inr (.inr 1))) else (gd [decide (0≤p1),decide (p1 < (a0.length:Int))] (bif decide ((((a0.getD p1.toNat default).Y7).length:Int) > 16) then (some (.inr (.inr 7))) else ((loopM (M.QL a0 p1) 0).bind fun y12=>Sum.elim (fun _=>some (.inl (wr .i64 (p1+1)))) (fun y14=>some (.inr (.inr y14))) y12))))) (fun y8=>some (.inr (.inr y8))) y6))) else (some (.inr (.inl ())))
noncomputable def M.QQ (a0:List U6):Option Int :=
 bif decide ((a0.length:Int) > 8) then (some 7) else ((loopM (M.QM a0) 0).bind fun y15=>Sum.elim (fun _=>some 0) (fun y17=>some y17) y15)
noncomputable def M.Ub (a0:Zi) (a1:ByteArray) (p1:Int):Option (Int ⊕ (Unit ⊕ Int)) :=
 bif decide (p1 < (a0.Y5.length:Int)) then (gd [decide (0≤p1),decide (p1 < (a0.Y5.length:Int))] (bif strEq ((a0.Y5.getD p1.toNat default).XG) a1 then (some (.inr (.inr p1))) else (some (.inl (wr .i64 (p1+1)))))) else (some (.inr (.inl ())))
noncomputable def M.Ux (a0:Zi) (a1:ByteArray):Option Int :=
 (loopM (M.Ub a0 a1) 0).bind fun y3=>Sum.elim (fun _=>some (-1)) (fun y5=>some y5) y3
noncomputable def M.X3 (a0:Zi) (p1:Int) (p3:Bool):Option (Int ⊕ (Unit ⊕ Int)) :=
 bif !p3 then (some (.inr (.inr 1))) else ((gc (((a0.Xf.getD p1.toNat default).Up)==2) (M.Ux a0 ((a0.Xf.getD p1.toNat default).VO))).bind fun r4=>bif (((a0.Xf.getD p1.toNat default).Up)==2)&&(decide (r4 < 0)) then (some (.inr (.inr 5))) else (some (.inl (wr .i64 (p1+1)))))
noncomputable def M.Qm (a0:Zi) (p1:Int):Option (Int ⊕ (Unit ⊕ Int)) :=
 bif decide (p1 < (a0.Xf.length:Int)) then (gd [decide (0≤p1),decide (p1 < (a0.Xf.length:Int))] (bif ((a0.Xf.getD p1.toNat default).Up)==1 then (M.X3 a0 p1 (((((a0.Xf.getD p1.toNat default).Vi) != 0)&&(((a0.Xf.getD p1.toNat default).Q3) != 0))&&((((a0.Xf.getD p1.toNat default).Up)==((a0.Xf.getD p1.toNat default).Up))&&((((a0.Xf.getD p1.toNat default).Vi)==((a0.Xf.getD p1.toNat default).Vi))&&((((a0.Xf.getD p1.toNat default).Q3)==((a0.Xf.getD p1.toNat default).Q3))&&((((a0.Xf.getD p1.toNat default).XR)==0)&&((((a0.Xf.getD p1.toNat default).VA)==0)&&((((a0.Xf.getD p1.toNat default).JY)==0)&&(strEq ((a0.Xf.getD p1.toNat default).VO) (⟨#[]⟩:ByteArray)&&((((a0.Xf.getD p1.toNat default).RJ)==0)&&((((a0.Xf.getD p1.toNat default).fHi)==0)&&true))))))))))) else (bif ((a0.Xf.getD p1.toNat default).Up)==2 then (M.X3 a0 p1 ((((((a0.Xf.getD p1.toNat default).RJ) != 0)&&(decide (((a0.Xf.getD p1.toNat default).RJ)≤((a0.Xf.getD p1.toNat default).fHi))))&&(decide ((wr .u32 (((a0.Xf.getD p1.toNat default).fHi) - ((a0.Xf.getD p1.toNat default).RJ))) < 8)))&&((((a0.Xf.getD p1.toNat default).Up)==((a0.Xf.getD p1.toNat default).Up))&&((((a0.Xf.getD p1.toNat default).Vi)==0)&&((((a0.Xf.getD p1.toNat default).Q3)==0)&&((((a0.Xf.getD p1.toNat default).XR)==0)&&((((a0.Xf.getD p1.toNat default).VA)==0)&&((((a0.Xf.getD p1.toNat default).JY)==0)&&(strEq ((a0.Xf.getD p1.toNat default).VO) ((a0.Xf.getD p1.toNat default).VO)&&((((a0.Xf.getD p1.toNat default).RJ)==((a0.Xf.getD p1.toNat default).RJ))&&((((a0.Xf.getD p1.toNat default).fHi)==((a0.Xf.getD p1.toNat default).fHi))&&true))))))))))) else (bif ((a0.Xf.getD p1.toNat default).Up)==3 then ((gc (((((a0.Xf.getD p1.toNat default).Vi) != 0)&&(((a0.Xf.getD p1.toNat default).Q3) != 0))&&((((a0.Xf.getD p1.toNat default).XR)==6)||(((a0.Xf.getD p1.toNat default).XR)==17))) (M.ZT ((a0.Xf.getD p1.toNat default).VA) 0 65535)).bind fun r5=>(gc ((((((a0.Xf.getD p1.toNat default).Vi) != 0)&&(((a0.Xf.getD p1.toNat default).Q3) != 0))&&((((a0.Xf.getD p1.toNat default).XR)==6)||(((a0.Xf.getD p1.toNat default).XR)==17)))&&r5) (M.ZT ((a0.Xf.getD p1.toNat default).JY) 0 65535)).bind fun r6=>M.X3 a0 p1 ((((((((((a0.Xf.getD p1.toNat default).Vi) != 0)&&(((a0.Xf.getD p1.toNat default).Q3) != 0))&&((((a0.Xf.getD p1.toNat default).XR)==6)||(((a0.Xf.getD p1.toNat default).XR)==17)))&&r5)&&r6)&&(strEq ((a0.Xf.getD p1.toNat default).VO) (⟨#[]⟩:ByteArray)))&&(((a0.Xf.getD p1.toNat default).RJ)==0))&&(((a0.Xf.getD p1.toNat default).fHi)==0))) else (M.X3 a0 p1 false))))) else (some (.inr (.inl ())))
noncomputable def M.Qn (a0:Zi):Option Int :=
 bif decide ((a0.Xf.length:Int) > 8) then (some 7) else ((loopM (M.Qm a0) 0).bind fun y7=>Sum.elim (fun _=>some 0) (fun y9=>some y9) y7)
noncomputable def M.Vj (a0:Zi) (p1:Int):Option (Int ⊕ (Unit ⊕ Int)) :=
 bif decide (p1 < (a0.Zc.length:Int)) then (gd [decide (0≤p1),decide (p1 < (a0.Zc.length:Int))] ((gc (!strEq ((a0.Zc.getD p1.toNat default).WH) (⟨#[]⟩:ByteArray)) (M.Ux a0 ((a0.Zc.getD p1.toNat default).WH))).bind fun r3=>(gc ((!((!strEq ((a0.Zc.getD p1.toNat default).WH) (⟨#[]⟩:ByteArray))&&(decide (r3 < 0))))&&(!strEq ((a0.Zc.getD p1.toNat default).Qz) (⟨#[]⟩:ByteArray))) (M.Ux a0 ((a0.Zc.getD p1.toNat default).Qz))).bind fun r4=>bif ((!strEq ((a0.Zc.getD p1.toNat default).WH) (⟨#[]⟩:ByteArray))&&(decide (r3 < 0)))||((!strEq ((a0.Zc.getD p1.toNat default).Qz) (⟨#[]⟩:ByteArray))&&(decide (r4 < 0))) then (some (.inr (.inr 5))) else (some (.inl (wr .i64 (p1+1)))))) else (some (.inr (.inl ())))
noncomputable def M.VQ (a0:Zi):Option Int :=
 (loopM (M.Vj a0) 0).bind fun y5=>Sum.elim (fun _=>some 0) (fun y7=>some y7) y5
noncomputable def M.Vk (a0:Zi) (a1:Int) (p1:Int):Option (Int ⊕ (Unit ⊕ Int)) :=
 bif decide (p1 < (a0.Zc.length:Int)) then (gd [decide (0≤p1),decide (p1 < (a0.Zc.length:Int)),guardB (((a0.Zc.getD p1.toNat default).ZE) != 0) (decide (0≤p1)),guardB (((a0.Zc.getD p1.toNat default).ZE) != 0) (decide (p1 < (a0.Zc.length:Int)))] (bif (((a0.Zc.getD p1.toNat default).ZE) != 0)&&(((a0.Zc.getD p1.toNat default).Zm)==a1) then (some (.inr (.inr p1))) else (some (.inl (wr .i64 (p1+1)))))) else (some (.inr (.inl ())))
noncomputable def M.Vl (a0:Zi) (a1:Int):Option Int :=
 (loopM (M.Vk a0 a1) 0).bind fun y3=>Sum.elim (fun _=>some (-1)) (fun y5=>some y5) y3
noncomputable def M.QS (a0:Zi) (a1:ByteArray) (p1:Int):Option (Int ⊕ (Unit ⊕ Int)) :=
 bif decide (p1 < (a0.Zc.length:Int)) then (gd [decide (0≤p1),decide (p1 < (a0.Zc.length:Int))] (bif strEq ((a0.Zc.getD p1.toNat default).XG) a1 then (some (.inr (.inr p1))) else (some (.inl (wr .i64 (p1+1)))))) else (some (.inr (.inl ())))
noncomputable def M.JC (a0:Zi) (a1:ByteArray):Option Int :=
 (loopM (M.QS a0 a1) 0).bind fun y3=>Sum.elim (fun _=>some (-1)) (fun y5=>some y5) y3
noncomputable def M.Vm (a0:Zi) (p1:Int) (p11:Int):Option (Int ⊕ (Unit ⊕ Int)) :=
 bif decide (p11 < p1) then (gd [decide (0≤p11),decide (p11 < (a0.Zq.length:Int)),guardB (((((a0.Zq.getD p11.toNat default).Zh).Zm)==(((a0.Zq.getD p1.toNat default).Zh).Zm))&&(((((a0.Zq.getD p11.toNat default).Zh).ZE)==(((a0.Zq.getD p1.toNat default).Zh).ZE))&&true)) (decide (0≤p11)),guardB (((((a0.Zq.getD p11.toNat default).Zh).Zm)==(((a0.Zq.getD p1.toNat default).Zh).Zm))&&(((((a0.Zq.getD p11.toNat default).Zh).ZE)==(((a0.Zq.getD p1.toNat default).Zh).ZE))&&true)) (decide (p11 < (a0.Zq.length:Int)))] (bif (((((a0.Zq.getD p11.toNat default).Zh).Zm)==(((a0.Zq.getD p1.toNat default).Zh).Zm))&&(((((a0.Zq.getD p11.toNat default).Zh).ZE)==(((a0.Zq.getD p1.toNat default).Zh).ZE))&&true))&&(((a0.Zq.getD p11.toNat default).Z5)==((a0.Zq.getD p1.toNat default).Z5)) then (some (.inr (.inr 6))) else (some (.inl (wr .i64 (p11+1)))))) else (some (.inr (.inl ())))
noncomputable def M.Q4 (a0:Zi) (p1:Int) (_p10:Unit):Option (Int ⊕ (Unit ⊕ Int)) :=
 (loopM (M.Vm a0 p1) 0).bind fun y13=>Sum.elim (fun _=>some (.inl (wr .i64 (p1+1)))) (fun y15=>some (.inr (.inr y15))) y13
noncomputable def M.Q5 (a0:Zi) (p1:Int) (p5:Int):Option (Int ⊕ (Unit ⊕ Int)) :=
 (M.Y9 ((a0.Zq.getD p1.toNat default).Zh)).bind fun r6=>(gc ((!((!r6)||(p5 != 1)))&&(((a0.Zq.getD p1.toNat default).YF) != 0)) (M.Vl a0 ((a0.Zq.getD p1.toNat default).YF))).bind fun r7=>(gc (!(((!r6)||(p5 != 1))||((((a0.Zq.getD p1.toNat default).YF) != 0)&&(decide (r7 ≥ 0))))) (M.ZT ((a0.Zq.getD p1.toNat default).Z5) 1 255)).bind fun r8=>(gc (!((((!r6)||(p5 != 1))||((((a0.Zq.getD p1.toNat default).YF) != 0)&&(decide (r7 ≥ 0))))||(!r8))) (M.ZT ((a0.Zq.getD p1.toNat default).UP) 0 65535)).bind fun r9=>bif ((((!r6)||(p5 != 1))||((((a0.Zq.getD p1.toNat default).YF) != 0)&&(decide (r7 ≥ 0))))||(!r8))||(!r9) then (some (.inr (.inr 1))) else (bif !strEq ((a0.Zq.getD p1.toNat default).ZP) (⟨#[]⟩:ByteArray) then ((M.JC a0 ((a0.Zq.getD p1.toNat default).ZP)).bind fun r16=>bif decide (r16 < 0) then (some (.inr (.inr 5))) else (gd [decide (0≤r16),decide (r16 < (a0.Zc.length:Int))] (bif ((a0.Zc.getD r16.toNat default).ZE)==0 then (some (.inr (.inr 1))) else (M.Q4 a0 p1 ())))) else (M.Q4 a0 p1 ()))
noncomputable def M.Q6 (a0:Zi) (p1:Int) (p4:Int):Option (Int ⊕ (Unit ⊕ Int)) :=
 bif (a0.Zq.getD p1.toNat default).ZS then (M.Q5 a0 p1 (wr .i64 (p4+1))) else (M.Q5 a0 p1 p4)
noncomputable def M.Q7 (a0:Zi) (p1:Int) (p3:Int):Option (Int ⊕ (Unit ⊕ Int)) :=
 bif !strEq ((a0.Zq.getD p1.toNat default).ZP) (⟨#[]⟩:ByteArray) then (M.Q6 a0 p1 (wr .i64 (p3+1))) else (M.Q6 a0 p1 p3)
noncomputable def M.Vn (a0:Zi) (p1:Int):Option (Int ⊕ (Unit ⊕ Int)) :=
 bif decide (p1 < (a0.Zq.length:Int)) then (gd [decide (0≤p1),decide (p1 < (a0.Zq.length:Int))] (bif ((a0.Zq.getD p1.toNat default).YF) != 0 then (M.Q7 a0 p1 1) else (M.Q7 a0 p1 0))) else (some (.inr (.inl ())))
noncomputable def M.VR (a0:Zi):Option Int :=
 bif decide ((a0.Zq.length:Int) > 16) then (some 7) else ((loopM (M.Vn a0) 0).bind fun y17=>Sum.elim (fun _=>some 0) (fun y19=>some y19) y17)
noncomputable def M.J2 (a0:Zi) (a1:ByteArray) (p1:Int):Option (Int ⊕ (Unit ⊕ Int)) :=
 bif decide (p1 < (a0.XP.length:Int)) then (gd [decide (0≤p1),decide (p1 < (a0.XP.length:Int))] (bif strEq ((a0.XP.getD p1.toNat default).XG) a1 then (some (.inr (.inr p1))) else (some (.inl (wr .i64 (p1+1)))))) else (some (.inr (.inl ())))
noncomputable def M.Jg (a0:Zi) (a1:ByteArray):Option Int :=
 (loopM (M.J2 a0 a1) 0).bind fun y3=>Sum.elim (fun _=>some (-1)) (fun y5=>some y5) y3
noncomputable def M.YH (a1:List QB) (p1:Int) (p7:Int):Option (Int ⊕ (Unit ⊕ Int)) :=
 bif decide (p7 < p1) then (gd [decide (0≤p7),decide (p7 < (a1.length:Int))] (bif ((a1.getD p7.toNat default).W3)==((a1.getD p1.toNat default).W3) then (some (.inr (.inr 4))) else (some (.inl (wr .i64 (p7+1)))))) else (some (.inr (.inl ())))
noncomputable def M.YI (a0:Zi) (a1:List QB) (a2:Int) (a3:Int) (a4:Int) (p1:Int):Option (Int ⊕ (Unit ⊕ Int)) :=
 bif decide (p1 < (a1.length:Int)) then (gd [decide (0≤p1),decide (p1 < (a1.length:Int))] ((M.ZT ((a1.getD p1.toNat default).W3) 1 5).bind fun r3=>(gc (!((!r3)||(((a1.getD p1.toNat default).W3)==a2))) (M.ZT ((a1.getD p1.toNat default).Qk) a3 a4)).bind fun r4=>(gc (!(((!r3)||(((a1.getD p1.toNat default).W3)==a2))||(!r4))) (M.ZT ((a1.getD p1.toNat default).UP) 0 65535)).bind fun r5=>bif (((!r3)||(((a1.getD p1.toNat default).W3)==a2))||(!r4))||(!r5) then (some (.inr (.inr 1))) else (bif (((a2==3)&&(((a1.getD p1.toNat default).Ze8) != 1))&&(((a1.getD p1.toNat default).Ze8) != 2))||((a2 != 3)&&(((a1.getD p1.toNat default).Ze8) != 0)) then (some (.inr (.inr 1))) else ((gc (!strEq ((a1.getD p1.toNat default).Zex) (⟨#[]⟩:ByteArray)) (M.Jg a0 ((a1.getD p1.toNat default).Zex))).bind fun r6=>bif (!strEq ((a1.getD p1.toNat default).Zex) (⟨#[]⟩:ByteArray))&&(decide (r6 < 0)) then (some (.inr (.inr 5))) else ((loopM (M.YH a1 p1) 0).bind fun y9=>Sum.elim (fun _=>some (.inl (wr .i64 (p1+1)))) (fun y11=>some (.inr (.inr y11))) y9))))) else (some (.inr (.inl ())))
noncomputable def M.Yk (a0:Zi) (a1:List QB) (a2:Int) (a3:Int) (a4:Int):Option Int :=
 bif decide ((a1.length:Int) > 4) then (some 7) else ((loopM (M.YI a0 a1 a2 a3 a4) 0).bind fun y12=>Sum.elim (fun _=>some 0) (fun y14=>some y14) y12)
noncomputable def M.Jo (a0:Zi) (p2:Int) (p6:Int):Option (Int ⊕ (Unit ⊕ Int)) :=
 bif decide (p6 < p2) then ((gc (((a0.YC.Z6.getD p6.toNat default).WS)==((a0.YC.Z6.getD p2.toNat default).WS)) (M.QR ((a0.YC.Z6.getD p6.toNat default).Zh) ((a0.YC.Z6.getD p2.toNat default).Zh))).bind fun r8=>gd [decide (0≤p6),decide (p6 < (a0.YC.Z6.length:Int)),decide (0≤p2),decide (p2 < (a0.YC.Z6.length:Int)),guardB (((a0.YC.Z6.getD p6.toNat default).WS)==((a0.YC.Z6.getD p2.toNat default).WS)) (decide (0≤p6)),guardB (((a0.YC.Z6.getD p6.toNat default).WS)==((a0.YC.Z6.getD p2.toNat default).WS)) (decide (p6 < (a0.YC.Z6.length:Int))),guardB (((a0.YC.Z6.getD p6.toNat default).WS)==((a0.YC.Z6.getD p2.toNat default).WS)) (decide (0≤p2)),guardB (((a0.YC.Z6.getD p6.toNat default).WS)==((a0.YC.Z6.getD p2.toNat default).WS)) (decide (p2 < (a0.YC.Z6.length:Int)))] (bif (((a0.YC.Z6.getD p6.toNat default).WS)==((a0.YC.Z6.getD p2.toNat default).WS))&&r8 then (some (.inr (.inr 6))) else (some (.inl (wr .i64 (p6+1)))))) else (some (.inr (.inl ())))
noncomputable def M.Jp (a0:Zi) (p2:Int):Option (Int ⊕ (Unit ⊕ Int)) :=
 bif decide (p2 < (a0.YC.Z6.length:Int)) then ((M.ZT ((a0.YC.Z6.getD p2.toNat default).WS) 0 255).bind fun r4=>(gc (!(!r4)) (M.Y9 ((a0.YC.Z6.getD p2.toNat default).Zh))).bind fun r5=>gd [decide (0≤p2),decide (p2 < (a0.YC.Z6.length:Int)),guardB (!(!r4)) (decide (0≤p2)),guardB (!(!r4)) (decide (p2 < (a0.YC.Z6.length:Int)))] (bif (!r4)||(!r5) then (some (.inr (.inr 1))) else ((loopM (M.Jo a0 p2) 0).bind fun y9=>Sum.elim (fun _=>some (.inl (wr .i64 (p2+1)))) (fun y11=>some (.inr (.inr y11))) y9))) else (some (.inr (.inl ())))
noncomputable def M.JD (a0:Zi):Option Int :=
 bif !a0.YC.Wr then (bif ((a0.YC.Z5 != 0)||(decide ((a0.YC.Z6.length:Int) > 0)))||(decide ((a0.YC.Zu.length:Int) > 0)) then (some 1) else (some 0)) else ((M.ZT a0.YC.Z5 1 255).bind fun r1=>bif !r1 then (some 1) else (bif decide ((a0.YC.Z6.length:Int) > 4) then (some 7) else ((loopM (M.Jp a0) 0).bind fun y12=>Sum.elim (fun _=>(M.Yk a0 a0.YC.Zu 3 0 16777215).bind fun r15=>some r15) (fun y14=>some y14) y12)))
noncomputable def M.Vb (a0:Zi):Option Int :=
 bif !a0.YK.Wr then (bif (((a0.YK.Z5 != 0)||(!strEq a0.YK.WH (⟨#[]⟩:ByteArray)))||(!strEq a0.YK.Qz (⟨#[]⟩:ByteArray)))||(decide ((a0.YK.Zu.length:Int) > 0)) then (some 1) else (some 0)) else ((M.ZT a0.YK.Z5 1 255).bind fun r1=>bif !r1 then (some 1) else ((gc (!strEq a0.YK.WH (⟨#[]⟩:ByteArray)) (M.Qj a0 a0.YK.WH)).bind fun r2=>(gc ((!((!strEq a0.YK.WH (⟨#[]⟩:ByteArray))&&(decide (r2 < 0))))&&(!strEq a0.YK.Qz (⟨#[]⟩:ByteArray))) (M.Qj a0 a0.YK.Qz)).bind fun r3=>bif ((!strEq a0.YK.WH (⟨#[]⟩:ByteArray))&&(decide (r2 < 0)))||((!strEq a0.YK.Qz (⟨#[]⟩:ByteArray))&&(decide (r3 < 0))) then (some 5) else ((M.Yk a0 a0.YK.Zu 4 1 15).bind fun r4=>some r4)))
noncomputable def M.Jq (a0:Zi) (p1:Int) (p6:Int):Option (Int ⊕ (Unit ⊕ Int)) :=
 bif decide (p6 < p1) then (gd [decide (0≤p6),decide (p6 < (a0.Xz.Zp.length:Int)),decide (0≤p1),decide (p1 < (a0.Xz.Zp.length:Int))] (bif ((a0.Xz.Zp.getD p6.toNat default).Zm)==((a0.Xz.Zp.getD p1.toNat default).Zm) then (some (.inr (.inr 4))) else (some (.inl (wr .i64 (p6+1)))))) else (some (.inr (.inl ())))
noncomputable def M.Jr (a0:Zi) (p1:Int):Option (Int ⊕ (Unit ⊕ Int)) :=
 bif decide (p1 < (a0.Xz.Zp.length:Int)) then ((gc (!(((a0.Xz.Zp.getD p1.toNat default).Zm)==0)) (M.ZT ((a0.Xz.Zp.getD p1.toNat default).KQ) 1 65535)).bind fun r3=>gd [decide (0≤p1),decide (p1 < (a0.Xz.Zp.length:Int)),guardB (!(((a0.Xz.Zp.getD p1.toNat default).Zm)==0)) (decide (0≤p1)),guardB (!(((a0.Xz.Zp.getD p1.toNat default).Zm)==0)) (decide (p1 < (a0.Xz.Zp.length:Int)))] (bif (((a0.Xz.Zp.getD p1.toNat default).Zm)==0)||(!r3) then (some (.inr (.inr 1))) else ((gc (!strEq ((a0.Xz.Zp.getD p1.toNat default).WH) (⟨#[]⟩:ByteArray)) (M.Jg a0 ((a0.Xz.Zp.getD p1.toNat default).WH))).bind fun r4=>(gc ((!((!strEq ((a0.Xz.Zp.getD p1.toNat default).WH) (⟨#[]⟩:ByteArray))&&(decide (r4 < 0))))&&(!strEq ((a0.Xz.Zp.getD p1.toNat default).Qz) (⟨#[]⟩:ByteArray))) (M.Jg a0 ((a0.Xz.Zp.getD p1.toNat default).Qz))).bind fun r5=>gd [decide (0≤p1),decide (p1 < (a0.Xz.Zp.length:Int)),guardB (!strEq ((a0.Xz.Zp.getD p1.toNat default).WH) (⟨#[]⟩:ByteArray)) (decide (0≤p1)),guardB (!strEq ((a0.Xz.Zp.getD p1.toNat default).WH) (⟨#[]⟩:ByteArray)) (decide (p1 < (a0.Xz.Zp.length:Int))),guardB (!((!strEq ((a0.Xz.Zp.getD p1.toNat default).WH) (⟨#[]⟩:ByteArray))&&(decide (r4 < 0)))) (decide (0≤p1)),guardB (!((!strEq ((a0.Xz.Zp.getD p1.toNat default).WH) (⟨#[]⟩:ByteArray))&&(decide (r4 < 0)))) (decide (p1 < (a0.Xz.Zp.length:Int))),guardB ((!((!strEq ((a0.Xz.Zp.getD p1.toNat default).WH) (⟨#[]⟩:ByteArray))&&(decide (r4 < 0))))&&(!strEq ((a0.Xz.Zp.getD p1.toNat default).Qz) (⟨#[]⟩:ByteArray))) (decide (0≤p1)),guardB ((!((!strEq ((a0.Xz.Zp.getD p1.toNat default).WH) (⟨#[]⟩:ByteArray))&&(decide (r4 < 0))))&&(!strEq ((a0.Xz.Zp.getD p1.toNat default).Qz) (⟨#[]⟩:ByteArray))) (decide (p1 < (a0.Xz.Zp.length:Int)))] (bif ((!strEq ((a0.Xz.Zp.getD p1.toNat default).WH) (⟨#[]⟩:ByteArray))&&(decide (r4 < 0)))||((!strEq ((a0.Xz.Zp.getD p1.toNat default).Qz) (⟨#[]⟩:ByteArray))&&(decide (r5 < 0))) then (some (.inr (.inr 5))) else ((loopM (M.Jq a0 p1) 0).bind fun y8=>Sum.elim (fun _=>some (.inl (wr .i64 (p1+1)))) (fun y10=>some (.inr (.inr y10))) y8))))) else (some (.inr (.inl ())))
noncomputable def M.VS (a0:Zi):Option Int :=
 bif decide ((a0.Xz.Zp.length:Int) > 8) then (some 7) else ((loopM (M.Jr a0) 0).bind fun y11=>Sum.elim (fun _=>some 0) (fun y13=>some y13) y11)
noncomputable def M.Qo (a0:XO) (p1:Int) (p4:Int):Option (Int ⊕ (Unit ⊕ Int)) :=
 bif decide (p4 < p1) then (gd [decide (0≤p4),decide (p4 < (a0.ZY.length:Int)),decide (0≤p1),decide (p1 < (a0.ZY.length:Int))] (bif ((((a0.ZY.getD p4.toNat default).Zm)==((a0.ZY.getD p1.toNat default).Zm))&&((((a0.ZY.getD p4.toNat default).ZE)==((a0.ZY.getD p1.toNat default).ZE))&&true)) then (some (.inr (.inr 4))) else (some (.inl (wr .i64 (p4+1)))))) else (some (.inr (.inl ())))
noncomputable def M.Qp (a0:XO) (p1:Int):Option (Int ⊕ (Unit ⊕ Int)) :=
 bif decide (p1 < (a0.ZY.length:Int)) then ((M.Y9 (a0.ZY.getD p1.toNat default)).bind fun r3=>gd [decide (0≤p1),decide (p1 < (a0.ZY.length:Int))] (bif !r3 then (some (.inr (.inr 1))) else ((loopM (M.Qo a0 p1) 0).bind fun y6=>Sum.elim (fun _=>some (.inl (wr .i64 (p1+1)))) (fun y8=>some (.inr (.inr y8))) y6))) else (some (.inr (.inl ())))
noncomputable def M.Qq (a0:XO) (p12:Int) (p15:Int):Option (Int ⊕ (Unit ⊕ Int)) :=
 bif decide (p15 < p12) then (gd [decide (0≤p15),decide (p15 < (a0.ZG.length:Int)),decide (0≤p12),decide (p12 < (a0.ZG.length:Int))] (bif (((((a0.ZG.getD p15.toNat default).Zh).Zm)==(((a0.ZG.getD p12.toNat default).Zh).Zm))&&(((((a0.ZG.getD p15.toNat default).Zh).ZE)==(((a0.ZG.getD p12.toNat default).Zh).ZE))&&true)) then (some (.inr (.inr 4))) else (some (.inl (wr .i64 (p15+1)))))) else (some (.inr (.inl ())))
noncomputable def M.Qr (a0:XO) (p12:Int):Option (Int ⊕ (Unit ⊕ Int)) :=
 bif decide (p12 < (a0.ZG.length:Int)) then ((M.Y9 ((a0.ZG.getD p12.toNat default).Zh)).bind fun r14=>gd [decide (0≤p12),decide (p12 < (a0.ZG.length:Int))] (bif !r14 then (some (.inr (.inr 1))) else ((loopM (M.Qq a0 p12) 0).bind fun y17=>Sum.elim (fun _=>some (.inl (wr .i64 (p12+1)))) (fun y19=>some (.inr (.inr y19))) y17))) else (some (.inr (.inl ())))
noncomputable def M.Qs (a0:XO) (p23:Int) (p27:Int):Option (Int ⊕ (Unit ⊕ Int)) :=
 bif decide (p27 < p23) then (gd [decide (0≤p27),decide (p27 < (a0.Zv.length:Int))] (bif (((((a0.Zv.getD p27.toNat default).Zh).Zm)==(((a0.Zv.getD p23.toNat default).Zh).Zm))&&(((((a0.Zv.getD p27.toNat default).Zh).ZE)==(((a0.Zv.getD p23.toNat default).Zh).ZE))&&true)) then (some (.inr (.inr 4))) else (some (.inl (wr .i64 (p27+1)))))) else (some (.inr (.inl ())))
noncomputable def M.Qt (a0:XO) (p23:Int):Option (Int ⊕ (Unit ⊕ Int)) :=
 bif decide (p23 < (a0.Zv.length:Int)) then (gd [decide (0≤p23),decide (p23 < (a0.Zv.length:Int))] ((M.Y9 ((a0.Zv.getD p23.toNat default).Zh)).bind fun r25=>(gc (!(!r25)) (M.Y9 ((a0.Zv.getD p23.toNat default).fIf))).bind fun r26=>bif (!r25)||(!r26) then (some (.inr (.inr 1))) else (bif (((((a0.Zv.getD p23.toNat default).Zh).Zm)==(((a0.Zv.getD p23.toNat default).fIf).Zm))&&(((((a0.Zv.getD p23.toNat default).Zh).ZE)==(((a0.Zv.getD p23.toNat default).fIf).ZE))&&true)) then (some (.inr (.inr 6))) else ((loopM (M.Qs a0 p23) 0).bind fun y29=>Sum.elim (fun _=>some (.inl (wr .i64 (p23+1)))) (fun y31=>some (.inr (.inr y31))) y29)))) else (some (.inr (.inl ())))
noncomputable def M.Js (a0:XO):Option Int :=
 bif decide ((a0.ZY.length:Int) > 8) then (some 7) else ((loopM (M.Qp a0) 0).bind fun y9=>Sum.elim (fun _=>bif decide ((a0.ZG.length:Int) > 8) then (some 7) else ((loopM (M.Qr a0) 0).bind fun y20=>Sum.elim (fun _=>bif decide ((a0.Zv.length:Int) > 8) then (some 7) else ((loopM (M.Qt a0) 0).bind fun y32=>Sum.elim (fun _=>some 0) (fun y34=>some y34) y32)) (fun y22=>some y22) y20)) (fun y11=>some y11) y9)
noncomputable def M.Q8 (a0:Zi):Option Int :=
 bif !a0.Xz.Wr then (bif ((a0.Xz.X6 != 0)||(a0.Xz.X7 != 0))||(decide ((wr .i64 ((wr .i64 ((wr .i64 ((wr .i64 ((a0.Xz.Zp.length:Int)+(a0.Xz.ZY.length:Int)))+(a0.Xz.ZG.length:Int)))+(a0.Xz.Zv.length:Int)))+(a0.Xz.Zu.length:Int))) > 0)) then (some 1) else (some 0)) else ((gc (!(a0.KQ==0)) (M.ZT a0.Xz.X6 1 255)).bind fun r1=>(gc (!((a0.KQ==0)||(!r1))) (M.ZT a0.Xz.X7 1 255)).bind fun r2=>bif ((a0.KQ==0)||(!r1))||(!r2) then (some 1) else ((M.VS a0).bind fun r3=>bif r3 != 0 then (some r3) else ((M.Js a0.Xz).bind fun r4=>bif r4 != 0 then (some r4) else ((M.Yk a0 a0.Xz.Zu 5 0 16777215).bind fun r5=>some r5))))
noncomputable def M.Yy (r3:Int) (r4:Int) (r5:Int) (r6:Int) (r7:Int) (r8:Int) (r9:Int) (r10:Int) (r11:Int) (r12:Int) (p13:Int):Option (Int ⊕ (Unit ⊕ Int)) :=
 bif decide (p13 < (([r3,r4,r5,r6,r7,r8,r9,r10,r11,r12]:List Int).length:Int)) then (gd [decide (0≤p13),decide (p13 < (([r3,r4,r5,r6,r7,r8,r9,r10,r11,r12]:List Int).length:Int))] (bif (([r3,r4,r5,r6,r7,r8,r9,r10,r11,r12]:List Int).getD p13.toNat default) != 0 then (gd [decide (0≤p13),decide (p13 < (([r3,r4,r5,r6,r7,r8,r9,r10,r11,r12]:List Int).length:Int))] (some (.inr (.inr (([r3,r4,r5,r6,r7,r8,r9,r10,r11,r12]:List Int).getD p13.toNat default))))) else (some (.inl (wr .i64 (p13+1)))))) else (some (.inr (.inl ())))
noncomputable def M.YJ (a0:Zi):Option Int :=
 (M.Jy a0.XG).bind fun r1=>bif !r1 then (some 3) else ((M.ZT a0.KQ 0 65535).bind fun r2=>bif !r2 then (some 1) else ((M.Yx a0.Zc).bind fun r3=>(M.QP a0.YV).bind fun r4=>(M.JB a0).bind fun r5=>(M.QQ a0.Y5).bind fun r6=>(M.Qn a0).bind fun r7=>(M.VQ a0).bind fun r8=>(M.VR a0).bind fun r9=>(M.JD a0).bind fun r10=>(M.Vb a0).bind fun r11=>(M.Q8 a0).bind fun r12=>(loopM (M.Yy r3 r4 r5 r6 r7 r8 r9 r10 r11 r12) 0).bind fun y15=>Sum.elim (fun _=>some 0) (fun y17=>some y17) y15))
noncomputable def M.Vc (a0:ZI) (p1:Int) (p4:Int):Option (Int ⊕ (Unit ⊕ Int)) :=
 bif decide (p4 < p1) then (gd [decide (0≤p4),decide (p4 < (a0.Ze.length:Int)),decide (0≤p1),decide (p1 < (a0.Ze.length:Int))] (bif strEq ((a0.Ze.getD p4.toNat default).XG) ((a0.Ze.getD p1.toNat default).XG) then (some (.inr (.inr 4))) else (some (.inl (wr .i64 (p4+1)))))) else (some (.inr (.inl ())))
noncomputable def M.JQ (a0:ZI) (p1:Int) (p9:Int) (p11:Int):Option (Int ⊕ (Unit ⊕ Int)) :=
 bif decide (p11 < p1) then ((gc (((((a0.Ze.getD p1.toNat default).Zc).getD p9.toNat default).ZE) != 0) (M.Vl (a0.Ze.getD p11.toNat default) ((((a0.Ze.getD p1.toNat default).Zc).getD p9.toNat default).Zm))).bind fun r13=>gd [guardB (((((a0.Ze.getD p1.toNat default).Zc).getD p9.toNat default).ZE) != 0) (decide (0≤p11)),guardB (((((a0.Ze.getD p1.toNat default).Zc).getD p9.toNat default).ZE) != 0) (decide (p11 < (a0.Ze.length:Int)))] (bif (((((a0.Ze.getD p1.toNat default).Zc).getD p9.toNat default).ZE) != 0)&&(decide (r13 ≥ 0)) then (some (.inr (.inr 4))) else (some (.inl (wr .i64 (p11+1)))))) else (some (.inr (.inl ())))
noncomputable def M.JR (a0:ZI) (p1:Int) (p9:Int):Option (Int ⊕ (Unit ⊕ Int)) :=
 gd [decide (0≤p1),decide (p1 < (a0.Ze.length:Int))] (bif decide (p9 < (((a0.Ze.getD p1.toNat default).Zc).length:Int)) then (gd [decide (0≤p1),decide (p1 < (a0.Ze.length:Int)),decide (0≤p9),decide (p9 < (((a0.Ze.getD p1.toNat default).Zc).length:Int))] ((loopM (M.JQ a0 p1 p9) 0).bind fun y14=>Sum.elim (fun _=>some (.inl (wr .i64 (p9+1)))) (fun y16=>some (.inr (.inr y16))) y14)) else (some (.inr (.inl ()))))
noncomputable def M.JS (a0:ZI) (p1:Int):Option (Int ⊕ (Unit ⊕ Int)) :=
 bif decide (p1 < (a0.Ze.length:Int)) then ((M.YJ (a0.Ze.getD p1.toNat default)).bind fun r3=>gd [decide (0≤p1),decide (p1 < (a0.Ze.length:Int))] (bif r3 != 0 then (some (.inr (.inr r3))) else ((loopM (M.Vc a0 p1) 0).bind fun y6=>Sum.elim (fun _=>(loopM (M.JR a0 p1) 0).bind fun y17=>Sum.elim (fun _=>some (.inl (wr .i64 (p1+1)))) (fun y19=>some (.inr (.inr y19))) y17) (fun y8=>some (.inr (.inr y8))) y6))) else (some (.inr (.inl ())))
noncomputable def M.JE (a0:ZI):Option Int :=
 bif decide ((a0.Ze.length:Int) > 8) then (some 7) else ((loopM (M.JS a0) 0).bind fun y20=>Sum.elim (fun _=>some 0) (fun y22=>some y22) y20)
noncomputable def M.Vo (a0:ZL) (a1:ZL):Option Int :=
 bif (decide (a0.Zm < a1.Zm))||((a0.Zm==a1.Zm)&&(decide (a0.ZE < a1.ZE))) then (some (-1)) else (bif ((a0.Zm==a1.Zm)&&((a0.ZE==a1.ZE)&&true)) then (some 0) else (some 1))
noncomputable def M.Uy (p16:(List Zj) × Int) (p18:(List Zj)):Option (((List Zj) × Int) ⊕ (List Zj)) :=
 some (.inl (p18,wr .i64 (p16.2+1)))
noncomputable def M.WU (a0:ZI) (p14:(List Zj) × Int) (p16:(List Zj) × Int) (r19:ZL) (p20:Int):Option (Int ⊕ Int) :=
 (gc (decide (p20 < (p16.1.length:Int))) (M.Vo ((p16.1.getD (0+p20.toNat) default).Zh) r19)).bind fun r22=>gd [guardB (decide (p20 < (p16.1.length:Int))) (decide (0≤p20)),guardB (decide (p20 < (p16.1.length:Int))) (decide (p20 < (p16.1.length:Int))),guardB ((decide (p20 < (p16.1.length:Int))) && !(decide (r22 < 0))) (decide (0≤p20)),guardB ((decide (p20 < (p16.1.length:Int))) && !(decide (r22 < 0))) (decide (p20 < (p16.1.length:Int))),guardB (((decide (p20 < (p16.1.length:Int))) && !(decide (r22 < 0)))&&(((((p16.1.getD (0+p20.toNat) default).Zh).Zm)==r19.Zm)&&(((((p16.1.getD (0+p20.toNat) default).Zh).ZE)==r19.ZE)&&true))) (decide (0≤p20)),guardB (((decide (p20 < (p16.1.length:Int))) && !(decide (r22 < 0)))&&(((((p16.1.getD (0+p20.toNat) default).Zh).Zm)==r19.Zm)&&(((((p16.1.getD (0+p20.toNat) default).Zh).ZE)==r19.ZE)&&true))) (decide (p20 < (p16.1.length:Int)))] (bif (decide (p20 < (p16.1.length:Int)))&&((decide (r22 < 0))||((((((p16.1.getD (0+p20.toNat) default).Zh).Zm)==r19.Zm)&&(((((p16.1.getD (0+p20.toNat) default).Zh).ZE)==r19.ZE)&&true))&&(decide (((p16.1.getD (0+p20.toNat) default).XN) < ((((a0.Ze.getD p14.2.toNat default).Zc).getD p16.2.toNat default).XN))))) then (some (.inl (wr .i64 (p20+1)))) else (some (.inr p20)))
noncomputable def M.Uz (p14:(List Zj) × Int) (p16:(List Zj) × Int) (y23:Int) (p24:(List Zj)):Option (((List Zj) × Int) ⊕ (List Zj)) :=
 gd [decide (0≤y23),decide (y23 < (p24.length:Int)),decide ((((p24.getD (0+y23.toNat) default).ZW).length+1)*16≤140737488355328),decide (0≤y23),decide (y23 < (p24.length:Int))] (M.Uy p16 (p24.set (0+y23.toNat) (⟨(p24.getD (0+y23.toNat) default).Zh,(p24.getD (0+y23.toNat) default).XN,((p24.getD (0+y23.toNat) default).ZW)++[(⟨p14.2,p16.2⟩:VL)]⟩:Zj)))
noncomputable def M.WV (a0:ZI) (p14:(List Zj) × Int) (p16:(List Zj) × Int):Option (((List Zj) × Int) ⊕ (List Zj)) :=
 gd [decide (0≤p14.2),decide (p14.2 < (a0.Ze.length:Int))] (bif decide (p16.2 < (((a0.Ze.getD p14.2.toNat default).Zc).length:Int)) then (gd [decide (0≤p14.2),decide (p14.2 < (a0.Ze.length:Int)),decide (0≤p16.2),decide (p16.2 < (((a0.Ze.getD p14.2.toNat default).Zc).length:Int))] (bif (((((a0.Ze.getD p14.2.toNat default).Zc).getD p16.2.toNat default).ZE)==0)||((((a0.Ze.getD p14.2.toNat default).Zc).getD p16.2.toNat default).Jx) then (M.Uy p16 p16.1) else ((M.QY ((((a0.Ze.getD p14.2.toNat default).Zc).getD p16.2.toNat default).Zm) ((((a0.Ze.getD p14.2.toNat default).Zc).getD p16.2.toNat default).ZE)).bind fun r19=>(loopM (M.WU a0 p14 p16 r19) 0).bind fun y23=>gd [guardB (!(y23==(p16.1.length:Int))) (decide (0≤y23)),guardB (!(y23==(p16.1.length:Int))) (decide (y23 < (p16.1.length:Int))),guardB (!((y23==(p16.1.length:Int))||(!(((((p16.1.getD (0+y23.toNat) default).Zh).Zm)==r19.Zm)&&(((((p16.1.getD (0+y23.toNat) default).Zh).ZE)==r19.ZE)&&true))))) (decide (0≤y23)),guardB (!((y23==(p16.1.length:Int))||(!(((((p16.1.getD (0+y23.toNat) default).Zh).Zm)==r19.Zm)&&(((((p16.1.getD (0+y23.toNat) default).Zh).ZE)==r19.ZE)&&true))))) (decide (y23 < (p16.1.length:Int)))] (bif ((y23==(p16.1.length:Int))||(!(((((p16.1.getD (0+y23.toNat) default).Zh).Zm)==r19.Zm)&&(((((p16.1.getD (0+y23.toNat) default).Zh).ZE)==r19.ZE)&&true))))||(((p16.1.getD (0+y23.toNat) default).XN) != ((((a0.Ze.getD p14.2.toNat default).Zc).getD p16.2.toNat default).XN)) then (gd [decide (0≤y23),decide (y23≤(p16.1.length:Int)),decide (0=0)||decide (0 < (p16.1.length - y23.toNat)),decide ((0+(p16.1.length - y23.toNat))*48≤140737488355328)] (gd [decide (0≤y23),decide (y23≤(p16.1.length:Int)),decide (((y23.toNat - 0)+1)*48≤140737488355328),decide ((((y23.toNat - 0)+1)+(0+(p16.1.length - y23.toNat)))*48≤140737488355328)] (M.Uz p14 p16 y23 (insL p16.1 y23.toNat (⟨r19,(((a0.Ze.getD p14.2.toNat default).Zc).getD p16.2.toNat default).XN,([]:List VL)⟩:Zj))))) else (M.Uz p14 p16 y23 p16.1))))) else (some (.inr p16.1)))
noncomputable def M.WW (a0:ZI) (p14:(List Zj) × Int):Option (((List Zj) × Int) ⊕ (List Zj)) :=
 bif decide (p14.2 < (a0.Ze.length:Int)) then ((loopM (M.WV a0 p14) (p14.1,0)).bind fun y25=>some (.inl (y25,wr .i64 (p14.2+1)))) else (some (.inr p14.1))
noncomputable def M.UA (p28:(List Int) × Int) (p30:(List Int)):Option (((List Int) × Int) ⊕ (List Int)) :=
 some (.inl (p30,wr .i64 (p28.2+1)))
noncomputable def M.WX (y26:(List Zj)) (p28:(List Int) × Int):Option (((List Int) × Int) ⊕ (List Int)) :=
 bif decide (p28.2 < (y26.length:Int)) then (gd [decide (0≤p28.2),decide (p28.2 < (y26.length:Int))] (bif decide ((((y26.getD p28.2.toNat default).ZW).length:Int) > 1) then (gd [decide ((p28.1.length+1)*8≤140737488355328)] (M.UA p28 (p28.1++[p28.2]))) else (M.UA p28 p28.1))) else (some (.inr p28.1))
noncomputable def M.Ge (a0:ZI):Option (JZ × Int) :=
 (M.JE a0).bind fun r1=>bif r1 != 0 then (some ((⟨([]:List Zj),([]:List Int)⟩:JZ),r1)) else ((loopM (M.WW a0) (([]:List Zj),0)).bind fun y26=>(loopM (M.WX y26) (([]:List Int),0)).bind fun y31=>bif decide ((y31.length:Int) > 12) then (some ((⟨([]:List Zj),([]:List Int)⟩:JZ),7)) else (some ((⟨y26,y31⟩:JZ),0)))
noncomputable def M.Yo (a0:List Int) (a1:Int) (p1:Int):Option (Int ⊕ (Unit ⊕ Bool)) :=
 bif decide (p1 < (a0.length:Int)) then (gd [decide (0≤p1),decide (p1 < (a0.length:Int)),guardB (!(decide ((a0.getD p1.toNat default) < 0))) (decide (0≤p1)),guardB (!(decide ((a0.getD p1.toNat default) < 0))) (decide (p1 < (a0.length:Int))),guardB ((!((decide ((a0.getD p1.toNat default) < 0))||(decide ((a0.getD p1.toNat default) ≥ a1))))&&(decide (p1 > 0))) (decide (0≤p1)),guardB ((!((decide ((a0.getD p1.toNat default) < 0))||(decide ((a0.getD p1.toNat default) ≥ a1))))&&(decide (p1 > 0))) (decide (p1 < (a0.length:Int))),guardB ((!((decide ((a0.getD p1.toNat default) < 0))||(decide ((a0.getD p1.toNat default) ≥ a1))))&&(decide (p1 > 0))) (decide (0≤(wr .i64 (p1 - 1)))),guardB ((!((decide ((a0.getD p1.toNat default) < 0))||(decide ((a0.getD p1.toNat default) ≥ a1))))&&(decide (p1 > 0))) (decide ((wr .i64 (p1 - 1)) < (a0.length:Int)))] (bif ((decide ((a0.getD p1.toNat default) < 0))||(decide ((a0.getD p1.toNat default) ≥ a1)))||((decide (p1 > 0))&&(decide ((a0.getD p1.toNat default)≤(a0.getD (wr .i64 (p1 - 1)).toNat default)))) then (some (.inr (.inr false))) else (some (.inl (wr .i64 (p1+1)))))) else (some (.inr (.inl ())))
noncomputable def M.Q9 (a0:List Int) (a1:Int):Option Bool :=
 bif decide ((a0.length:Int) > 2) then (some false) else ((loopM (M.Yo a0 a1) 0).bind fun y3=>Sum.elim (fun _=>some true) (fun y5=>some y5) y3)
noncomputable def M.Zah (a0:ZI) (a1:List Int):Option (XL × Int) :=
 (M.Ge a0).bind fun r1=>bif r1.2 != 0 then (some ((⟨(⟨([]:List Zi)⟩:ZI),(⟨([]:List Zj),([]:List Int)⟩:JZ),([]:List Int)⟩:XL),r1.2)) else ((M.Q9 a1 (r1.1.J0.length:Int)).bind fun r2=>bif !r2 then (some ((⟨(⟨([]:List Zi)⟩:ZI),(⟨([]:List Zj),([]:List Int)⟩:JZ),([]:List Int)⟩:XL),1)) else (gd [decide (0=0)||decide (0 < a1.length),decide ((0+a1.length)*8≤140737488355328)] (some ((⟨a0,r1.1,(a1:List Int)⟩:XL),0))))
noncomputable def M.GH (a0:ZI) (a1:List Int):Option (XL × Bool) :=
 (M.VC a0).bind fun r1=>bif (!r1)||(decide ((a1.length:Int) > 2)) then (some ((⟨(⟨([]:List Zi)⟩:ZI),(⟨([]:List Zj),([]:List Int)⟩:JZ),([]:List Int)⟩:XL),false)) else ((M.Zah a0 a1).bind fun r2=>some (r2.1,r2.2==0))
noncomputable def M.XV (a0:Int) (a1:Int) (a2:Int):Option Bool :=
 some ((decide (a1≤a0))&&(decide (a0≤a2)))
noncomputable def M.QV (a0:ZM) (a1:Bool) (a2:Bool) (a3:Bool):Option Bool :=
 some (((a1||(a0.Zag==0))&&(a2||(((a0.Zgv==0)&&((a0.Ua.length:Int)==0))&&(a0.W3==0))))&&(a3||(a0.YF==0)))
noncomputable def M.Qf (a0:ZF) (a1:ZF):Option Bool :=
 some ((decide (a0.ZP < a1.ZP))||((a0.ZP==a1.ZP)&&(decide (a0.Zm < a1.Zm))))
noncomputable def M.Vd (a0:List ZF) (a1:Bool) (p1:Int):Option (Int ⊕ (Unit ⊕ Bool)) :=
 bif decide (p1 < (a0.length:Int)) then ((gc ((!(decide (((a0.getD p1.toNat default).ZP) < 0)))&&(decide (p1 > 0))) (M.Qf (a0.getD (wr .i64 (p1 - 1)).toNat default) (a0.getD p1.toNat default))).bind fun r3=>gd [decide (0≤p1),decide (p1 < (a0.length:Int)),guardB ((!(decide (((a0.getD p1.toNat default).ZP) < 0)))&&(decide (p1 > 0))) (decide (0≤(wr .i64 (p1 - 1)))),guardB ((!(decide (((a0.getD p1.toNat default).ZP) < 0)))&&(decide (p1 > 0))) (decide ((wr .i64 (p1 - 1)) < (a0.length:Int))),guardB ((!(decide (((a0.getD p1.toNat default).ZP) < 0)))&&(decide (p1 > 0))) (decide (0≤p1)),guardB ((!(decide (((a0.getD p1.toNat default).ZP) < 0)))&&(decide (p1 > 0))) (decide (p1 < (a0.length:Int))),guardB (!((decide (((a0.getD p1.toNat default).ZP) < 0))||((decide (p1 > 0))&&(!r3)))) (decide (0≤p1)),guardB (!((decide (((a0.getD p1.toNat default).ZP) < 0))||((decide (p1 > 0))&&(!r3)))) (decide (p1 < (a0.length:Int)))] (bif ((decide (((a0.getD p1.toNat default).ZP) < 0))||((decide (p1 > 0))&&(!r3)))||(!((((a0.getD p1.toNat default).Zm)==0)==a1)) then (some (.inr (.inr false))) else (some (.inl (wr .i64 (p1+1)))))) else (some (.inr (.inl ())))
noncomputable def M.Qh (a0:List ZF) (a1:Bool):Option Bool :=
 (loopM (M.Vd a0 a1) 0).bind fun y4=>Sum.elim (fun _=>some true) (fun y6=>some y6) y4
noncomputable def M.Qu (a0:ZM):Option Bool :=
 (gc (!((a0.Yj != 0)||(a0.Qk != 0))) (M.XV a0.Z5 1 255)).bind fun r1=>(gc (!(((a0.Yj != 0)||(a0.Qk != 0))||(!r1))) (M.QV a0 false false true)).bind fun r2=>bif (((a0.Yj != 0)||(a0.Qk != 0))||(!r1))||(!r2) then (some false) else (bif a0.YF != 0 then (some (((a0.ZQ.length:Int)==0)&&(!a0.ZS))) else (bif a0.ZS then (some ((a0.ZQ.length:Int)==0)) else ((gc ((a0.ZQ.length:Int)==1) (M.Qh a0.ZQ true)).bind fun r3=>some (((a0.ZQ.length:Int)==1)&&r3))))
noncomputable def M.YD (a0:ZM):Option Bool :=
 (M.XV a0.Yj 1 4).bind fun r1=>(gc (!(!r1)) (M.XV a0.Z5 1 255)).bind fun r2=>(gc (!((!r1)||(!r2))) (M.XV a0.Qk 0 1073741824)).bind fun r3=>(gc (!(((!r1)||(!r2))||(!r3))) (M.QV a0 true false false)).bind fun r4=>bif (((!r1)||(!r2))||(!r3))||(!r4) then (some false) else ((M.XV a0.Zag 0 1073741824).bind fun r5=>bif (!r5)||((a0.Yj != 4)&&(a0.Zag != 0)) then (some false) else (bif a0.ZS then (some ((((a0.Yj==1)&&(a0.Qk==0))&&(a0.UP==0))&&((a0.ZQ.length:Int)==0))) else ((gc (decide ((a0.ZQ.length:Int) > 0)) (M.Qh a0.ZQ false)).bind fun r6=>some ((decide ((a0.ZQ.length:Int) > 0))&&r6))))
noncomputable def M.YS (a0:ZM):Option Bool :=
 (M.XV a0.Z5 1 255).bind fun r1=>(gc (!(!r1)) (M.XV a0.Qk 1 15)).bind fun r2=>(gc (!((!r1)||(!r2))) (M.QV a0 false false false)).bind fun r3=>bif (((!r1)||(!r2))||(!r3))||a0.ZS then (some false) else (bif a0.Yj==1 then ((gc (((a0.Qk==1)&&(a0.UP==0))&&((a0.ZQ.length:Int)==1)) (M.Qh a0.ZQ true)).bind fun r4=>some ((((a0.Qk==1)&&(a0.UP==0))&&((a0.ZQ.length:Int)==1))&&r4)) else (bif a0.Yj==2 then (some ((a0.ZQ.length:Int)==0)) else (bif a0.Yj==3 then ((gc (decide ((a0.ZQ.length:Int) > 0)) (M.Qh a0.ZQ false)).bind fun r5=>some ((decide ((a0.ZQ.length:Int) > 0))&&r5)) else (some false))))
noncomputable def M.Yu (a0:ZM) (p6:Bool):Option Bool :=
 bif p6 then ((gc ((((a0.Yj==4)||(decide ((a0.Ua.length:Int) > 0)))&&(a0.W3 != 0))&&((a0.ZQ.length:Int)==1)) (M.Qh a0.ZQ false)).bind fun r7=>gd [guardB (((((a0.Yj==4)||(decide ((a0.Ua.length:Int) > 0)))&&(a0.W3 != 0))&&((a0.ZQ.length:Int)==1))&&r7) (decide (0≤0)),guardB (((((a0.Yj==4)||(decide ((a0.Ua.length:Int) > 0)))&&(a0.W3 != 0))&&((a0.ZQ.length:Int)==1))&&r7) (decide (0 < (a0.ZQ.length:Int)))] (some (((((((a0.Yj==4)||(decide ((a0.Ua.length:Int) > 0)))&&(a0.W3 != 0))&&((a0.ZQ.length:Int)==1))&&r7)&&(((a0.ZQ.getD (0:Int).toNat default).Zm)==a0.W3))&&(!a0.ZS)))) else (some false)
noncomputable def M.Yv (a0:ZM) (p5:Bool):Option Bool :=
 bif p5 then (some (((((a0.Ua.length:Int)==0)&&(a0.W3==0))&&((a0.ZQ.length:Int)==0))&&(a0.ZS==(a0.Yj==2)))) else (bif a0.Yj==3 then (M.Yu a0 (a0.Yj==3)) else (M.Yu a0 (a0.Yj==4)))
noncomputable def M.Ja (a0:ZM):Option Bool :=
 (M.XV a0.Z5 1 255).bind fun r1=>(gc (!(!r1)) (M.XV a0.Qk 0 16777215)).bind fun r2=>(gc (!((!r1)||(!r2))) (M.XV a0.Zgv 0 1000000)).bind fun r3=>(gc (!(((!r1)||(!r2))||(!r3))) (M.QV a0 false true false)).bind fun r4=>bif (((!r1)||(!r2))||(!r3))||(!r4) then (some false) else (bif a0.Yj==1 then (M.Yv a0 (a0.Yj==1)) else (M.Yv a0 (a0.Yj==2)))
noncomputable def M.Ve (a0:ZM) (p3:Int):Option (Int ⊕ (Unit ⊕ Bool)) :=
 bif decide (p3 < (a0.Ua.length:Int)) then ((M.XV (a0.Ua.getD p3.toNat default) 1 65535).bind fun r5=>gd [decide (0≤p3),decide (p3 < (a0.Ua.length:Int))] (bif !r5 then (some (.inr (.inr false))) else (some (.inl (wr .i64 (p3+1)))))) else (some (.inr (.inl ())))
noncomputable def M.V0 (a0:ZM):Option Bool :=
 (M.Y9 a0.Zh).bind fun r1=>(gc (!(!r1)) (M.XV a0.UP 0 65535)).bind fun r2=>bif ((!r1)||(!r2))||(decide ((a0.Ua.length:Int) > 64)) then (some false) else ((loopM (M.Ve a0) 0).bind fun y6=>Sum.elim (fun _=>bif a0.XR==1 then ((gc ((((a0.Yj==0)&&(a0.Z5==0))&&(a0.Qk==0))&&(a0.UP==0)) (M.QV a0 false false false)).bind fun r9=>(gc (((((((a0.Yj==0)&&(a0.Z5==0))&&(a0.Qk==0))&&(a0.UP==0))&&r9)&&(!a0.ZS))&&((a0.ZQ.length:Int)==1)) (M.Qh a0.ZQ true)).bind fun r10=>some ((((((((a0.Yj==0)&&(a0.Z5==0))&&(a0.Qk==0))&&(a0.UP==0))&&r9)&&(!a0.ZS))&&((a0.ZQ.length:Int)==1))&&r10)) else (bif a0.XR==2 then ((M.Qu a0).bind fun r11=>some r11) else (bif a0.XR==3 then ((M.YD a0).bind fun r12=>some r12) else (bif a0.XR==4 then ((M.YS a0).bind fun r13=>some r13) else (bif a0.XR==5 then ((M.Ja a0).bind fun r14=>some r14) else (some false)))))) (fun y8=>some y8) y6)
noncomputable def M.JF (a0:List ZM) (a1:Int) (p1:Int):Option (Int ⊕ (Unit ⊕ Bool)) :=
 bif decide (p1 < (a0.length:Int)) then ((M.V0 (a0.getD p1.toNat default)).bind fun r3=>(gc ((!((!r3)||((a1 != 0)&&(((a0.getD p1.toNat default).XR) != a1))))&&(decide (p1 > 0))) (M.Vo ((a0.getD (wr .i64 (p1 - 1)).toNat default).Zh) ((a0.getD p1.toNat default).Zh))).bind fun r4=>gd [decide (0≤p1),decide (p1 < (a0.length:Int)),guardB ((!(!r3))&&(a1 != 0)) (decide (0≤p1)),guardB ((!(!r3))&&(a1 != 0)) (decide (p1 < (a0.length:Int))),guardB ((!((!r3)||((a1 != 0)&&(((a0.getD p1.toNat default).XR) != a1))))&&(decide (p1 > 0))) (decide (0≤(wr .i64 (p1 - 1)))),guardB ((!((!r3)||((a1 != 0)&&(((a0.getD p1.toNat default).XR) != a1))))&&(decide (p1 > 0))) (decide ((wr .i64 (p1 - 1)) < (a0.length:Int))),guardB ((!((!r3)||((a1 != 0)&&(((a0.getD p1.toNat default).XR) != a1))))&&(decide (p1 > 0))) (decide (0≤p1)),guardB ((!((!r3)||((a1 != 0)&&(((a0.getD p1.toNat default).XR) != a1))))&&(decide (p1 > 0))) (decide (p1 < (a0.length:Int)))] (bif ((!r3)||((a1 != 0)&&(((a0.getD p1.toNat default).XR) != a1)))||((decide (p1 > 0))&&(decide (r4 ≥ 0))) then (some (.inr (.inr false))) else (some (.inl (wr .i64 (p1+1)))))) else (some (.inr (.inl ())))
noncomputable def M.Wt (a0:List ZM) (a1:Int):Option Bool :=
 (loopM (M.JF a0 a1) 0).bind fun y5=>Sum.elim (fun _=>some true) (fun y7=>some y7) y5
noncomputable def M.JT (a0:ZM):Option Bool :=
 some ((a0.XR==2)&&(a0.YF != 0))
noncomputable def M.JG (a0:Int):Option Int :=
 some (if (if 32 < a0 then 32 else a0) > 0 then (if 32 < a0 then 32 else a0) else 0)
noncomputable def M.J3 (a0:Int):Option Int :=
 (M.JG a0).bind fun r1=>gd [decide (0≤(wr .i64 (32 - r1)))] (some (wr .u32 (4294967295*2 ^ min (wr .i64 (32 - r1)).toNat 32)))
noncomputable def M.Yn (a0:ZL) (a1:Int):Option Bool :=
 (M.J3 a0.ZE).bind fun r1=>some ((bitD .and .u32 a1 r1)==a0.Zm)
noncomputable def M.Yi (p1:Int × Int) (p3:Int):Option ((Int × Int) ⊕ Int) :=
 some (.inl (p3,wr .i64 (p1.2+1)))
noncomputable def M.Yp (a0:List ZM) (a1:ZL) (a2:Int) (p1:Int × Int):Option ((Int × Int) ⊕ Int) :=
 bif decide (p1.2 < (a0.length:Int)) then (gd [decide (0≤p1.2),decide (p1.2 < (a0.length:Int))] ((gc (!(((((a0.getD p1.2.toNat default).Zh).Zm)==a1.Zm)&&(((((a0.getD p1.2.toNat default).Zh).ZE)==a1.ZE)&&true))) (M.Yn ((a0.getD p1.2.toNat default).Zh) a2)).bind fun r4=>bif (((((a0.getD p1.2.toNat default).Zh).Zm)==a1.Zm)&&(((((a0.getD p1.2.toNat default).Zh).ZE)==a1.ZE)&&true))||(!r4) then (M.Yi p1 p1.1) else (gd [guardB (!(decide (p1.1 < 0))) (decide (0≤p1.1)),guardB (!(decide (p1.1 < 0))) (decide (p1.1 < (a0.length:Int)))] (bif (decide (p1.1 < 0))||(decide ((((a0.getD p1.2.toNat default).Zh).ZE) > (((a0.getD p1.1.toNat default).Zh).ZE))) then (M.Yi p1 p1.2) else (M.Yi p1 p1.1))))) else (some (.inr p1.1))
noncomputable def M.YN (a0:List ZM) (a1:ZL) (a2:Int):Option Int :=
 (loopM (M.Yp a0 a1 a2) ((-1),0)).bind fun y5=>some y5
noncomputable def M.XY (a0:List ZF):Option (List ZF) :=
 gd [decide (0=0)||decide (0 < a0.length),decide ((0+a0.length)*16≤140737488355328)] (some a0)
noncomputable def M.Jb (p2:(List ZF) × Int) (p4:(List ZF)):Option (((List ZF) × Int) ⊕ (List ZF)) :=
 some (.inl (p4,wr .i64 (p2.2+1)))
noncomputable def M.Jc (a1:Int) (r1:(List ZF)) (p2:(List ZF) × Int):Option (((List ZF) × Int) ⊕ (List ZF)) :=
 bif decide (p2.2 < (r1.length:Int)) then (gd [decide (0≤p2.2),decide (p2.2 < (p2.1.length:Int))] (bif ((p2.1.getD (0+p2.2.toNat) default).Zm)==0 then (gd [decide (0≤p2.2),decide (p2.2 < (p2.1.length:Int))] (M.Jb p2 (p2.1.set (0+p2.2.toNat) (⟨(p2.1.getD (0+p2.2.toNat) default).ZP,a1⟩:ZF)))) else (M.Jb p2 p2.1))) else (some (.inr p2.1))
noncomputable def M.Wu (a0:List ZF) (a1:Int):Option (List ZF) :=
 (M.XY a0).bind fun r1=>(loopM (M.Jc a1 r1) (r1,0)).bind fun y5=>some y5
noncomputable def M.JH (a0:List ZM) (p1:(List Bool) × Int):Option (((List Bool) × Int) ⊕ (Int ⊕ (List ZF))) :=
 (gc (!((a0.getD p1.2.toNat default).ZS)) (M.JT (a0.getD p1.2.toNat default))).bind fun r3=>gd [decide (0≤p1.2),decide (p1.2 < (a0.length:Int)),guardB (!((a0.getD p1.2.toNat default).ZS)) (decide (0≤p1.2)),guardB (!((a0.getD p1.2.toNat default).ZS)) (decide (p1.2 < (a0.length:Int)))] (bif (!((a0.getD p1.2.toNat default).ZS))&&r3 then (gd [decide (0≤p1.2),decide (p1.2 < (p1.1.length:Int))] (gd [decide (0≤p1.2),decide (p1.2 < (a0.length:Int))] ((M.YN a0 ((a0.getD p1.2.toNat default).Zh) ((a0.getD p1.2.toNat default).YF)).bind fun r4=>gd [decide (0≤p1.2),decide (p1.2 < (a0.length:Int))] (gd [guardB (!((decide (r4 < 0))||(decide (r4 ≥ (a0.length:Int))))) (decide (0≤r4)),guardB (!((decide (r4 < 0))||(decide (r4 ≥ (a0.length:Int))))) (decide (r4 < (((p1.1.set (0+p1.2.toNat) true).length:Nat):Int)))] (bif ((decide (r4 < 0))||(decide (r4 ≥ (a0.length:Int))))||((p1.1.set (0+p1.2.toNat) true).getD (0+r4.toNat) default) then (some (.inr (.inr ([]:List ZF)))) else ((gc (!((a0.getD r4.toNat default).ZS)) (M.JT (a0.getD r4.toNat default))).bind fun r5=>gd [decide (0≤r4),decide (r4 < (a0.length:Int)),guardB (!((a0.getD r4.toNat default).ZS)) (decide (0≤r4)),guardB (!((a0.getD r4.toNat default).ZS)) (decide (r4 < (a0.length:Int)))] (bif (!((a0.getD r4.toNat default).ZS))&&(!r5) then ((M.Wu ((a0.getD r4.toNat default).ZQ) ((a0.getD p1.2.toNat default).YF)).bind fun r6=>gd [decide (0≤r4),decide (r4 < (a0.length:Int))] (some (.inr (.inr r6)))) else (some (.inl (p1.1.set (0+p1.2.toNat) true,r4)))))))))) else (some (.inr (.inl p1.2))))
noncomputable def M.Wv (a0:List ZM) (a1:Int):Option (List ZF) :=
 gd [decide (0≤(a0.length:Int)),decide ((a0.length:Int)≤(a0.length:Int)),decide ((a0.length:Int).toNat*1≤140737488355328),decide ((a0.length:Int).toNat≤140737488355328)] ((loopM (M.JH a0) (List.replicate ((a0.length:Int).toNat) false,a1)).bind fun y7=>Sum.elim (fun g8=>gd [decide (0≤g8),decide (g8 < (a0.length:Int))] (bif (a0.getD g8.toNat default).ZS then (some ([]:List ZF)) else (gd [decide (0≤g8),decide (g8 < (a0.length:Int))] (some ((a0.getD g8.toNat default).ZQ))))) (fun y9=>some y9) y7)
noncomputable def M.Z4 (a0:List VL) (a1:VL) (p1:Int):Option (Int ⊕ (Unit ⊕ Int)) :=
 bif decide (p1 < (a0.length:Int)) then (gd [decide (0≤p1),decide (p1 < (a0.length:Int))] (bif ((a1.UQ==((a0.getD p1.toNat default).UQ))&&((a1.ZP==((a0.getD p1.toNat default).ZP))&&true)) then (some (.inr (.inr p1))) else (some (.inl (wr .i64 (p1+1)))))) else (some (.inr (.inl ())))
noncomputable def M.Z9 (a0:List VL) (a1:VL):Option Int :=
 (loopM (M.Z4 a0 a1) 0).bind fun y3=>Sum.elim (fun _=>some (-1)) (fun y5=>some y5) y3
noncomputable def M.ZV (a0:List VL) (a1:VL):Option Bool :=
 (M.Z9 a0 a1).bind fun r1=>some (decide (r1 ≥ 0))
noncomputable def M.YT (a0:XL) (a1:Int) (a2:Int) (p1:Int):Option (Int ⊕ (Unit ⊕ Int)) :=
 bif decide (p1 < (a0.Yf.Xe.length:Int)) then (gd [decide (0≤p1),decide (p1 < (a0.Yf.Xe.length:Int))] ((M.ZV ((a0.Yf.Xe.getD p1.toNat default).ZW) (⟨a1,a2⟩:VL)).bind fun r3=>bif r3 then (some (.inr (.inr p1))) else (some (.inl (wr .i64 (p1+1)))))) else (some (.inr (.inl ())))
noncomputable def M.Qd (a0:XL) (a1:Int) (a2:Int):Option Int :=
 (loopM (M.YT a0 a1 a2) 0).bind fun y4=>Sum.elim (fun _=>some (-1)) (fun y6=>some y6) y4
noncomputable def M.XS (a0:List Int) (a1:Int) (p1:Int):Option (Int ⊕ (Unit ⊕ Int)) :=
 bif decide (p1 < (a0.length:Int)) then (gd [decide (0≤p1),decide (p1 < (a0.length:Int))] (bif a1==(a0.getD p1.toNat default) then (some (.inr (.inr p1))) else (some (.inl (wr .i64 (p1+1)))))) else (some (.inr (.inl ())))
noncomputable def M.XQ (a0:List Int) (a1:Int):Option Int :=
 (loopM (M.XS a0 a1) 0).bind fun y3=>Sum.elim (fun _=>some (-1)) (fun y5=>some y5) y3
noncomputable def M.VE (a0:XL) (a1:Int) (a2:Int):Option Int :=
 (M.Qd a0 a1 a2).bind fun r1=>bif decide (r1 < 0) then (some (-1)) else ((M.XQ a0.Yf.J0 r1).bind fun r2=>some r2)
noncomputable def M.XH (a0:List Int) (a1:Int):Option Bool :=
 (M.XQ a0 a1).bind fun r1=>some (decide (r1 ≥ 0))
noncomputable def M.Us (a0:XL) (a1:Int) (a2:Int):Option Bool :=
 (M.Qd a0 a1 a2).bind fun r1=>bif decide (r1 < 0) then (some false) else ((M.VE a0 a1 a2).bind fun r2=>(gc (!(decide (r2 < 0))) (M.XH a0.Jx r2)).bind fun r3=>some ((decide (r2 < 0))||(!r3)))
noncomputable def M.Jh (a0:Int):Option Bool :=
 some (a0 != a0)
noncomputable def M.YO (a0:Int) (a1:Int):Option Int :=
 (M.Jh a0).bind fun r1=>(M.Jh a1).bind fun r2=>bif r1 then (bif r2 then (some 0) else (some (-1))) else (bif r2 then (some 1) else (bif decide (a0 < a1) then (some (-1)) else (bif decide (a0 > a1) then (some 1) else (some 0))))
noncomputable def M.Y4 (a0:Int):Option Bool :=
 some (a0 != a0)
noncomputable def M.Yw (a0:Int) (a1:Int):Option Int :=
 (M.Y4 a0).bind fun r1=>(M.Y4 a1).bind fun r2=>bif r1 then (bif r2 then (some 0) else (some (-1))) else (bif r2 then (some 1) else (bif decide (a0 < a1) then (some (-1)) else (bif decide (a0 > a1) then (some 1) else (some 0))))
noncomputable def M.QT (a0:List Int) (p1:Int):Option (Int ⊕ (Unit ⊕ Int)) :=
 bif decide (p1 < (a0.length:Int)) then (gd [decide (0≤p1),decide (p1 < (a0.length:Int))] (bif (a0.getD p1.toNat default) != 0 then (some (.inr (.inr (a0.getD p1.toNat default)))) else (some (.inl (wr .i64 (p1+1)))))) else (some (.inr (.inl ())))
noncomputable def M.Wd (a0:List Int):Option Int :=
 (loopM (M.QT a0) 0).bind fun y3=>Sum.elim (fun _=>some 0) (fun y5=>some y5) y3
noncomputable def M.JU (a0:ZF) (a1:ZF):Option Int :=
 (M.YO a0.ZP a1.ZP).bind fun r1=>(M.Yw a0.Zm a1.Zm).bind fun r2=>(M.Wd ([r1,r2]:List Int)).bind fun r3=>some r3
noncomputable def M.XI (a0:List ZF):Option (List ZF) :=
 sortM M.JU a0
noncomputable def M.Xk (p3:(List ZF) × Int × Int) (p5:Int × (List ZF)):Option (((List ZF) × Int × Int) ⊕ (Int × (List ZF))) :=
 some (.inl (p5.2,p5.1,wr .i64 (p3.2.2+1)))
noncomputable def M.Xl (a0:List ZF) (p1:Int) (p3:(List ZF) × Int × Int):Option (((List ZF) × Int × Int) ⊕ (Int × (List ZF))) :=
 bif decide (p3.2.2 < ((a0.length - p1.toNat:Nat):Int)) then (gd [decide (0≤p3.2.2),decide (p3.2.2 < ((a0.length - p1.toNat:Nat):Int)),decide (0≤(wr .i64 (p3.2.2 - 1))),decide ((wr .i64 (p3.2.2 - 1)) < ((a0.length - p1.toNat:Nat):Int))] (bif !((((p3.1.getD ((0+p1.toNat)+p3.2.2.toNat) default).ZP)==((p3.1.getD ((0+p1.toNat)+(wr .i64 (p3.2.2 - 1)).toNat) default).ZP))&&((((p3.1.getD ((0+p1.toNat)+p3.2.2.toNat) default).Zm)==((p3.1.getD ((0+p1.toNat)+(wr .i64 (p3.2.2 - 1)).toNat) default).Zm))&&true)) then (gd [decide (0≤p3.2.2),decide (p3.2.2 < ((a0.length - p1.toNat:Nat):Int)),decide (0≤p3.2.1),decide (p3.2.1 < (p3.1.length:Int))] (M.Xk p3 (wr .i64 (p3.2.1+1),p3.1.set (0+p3.2.1.toNat) (p3.1.getD ((0+p1.toNat)+p3.2.2.toNat) default)))) else (M.Xk p3 (p3.2.1,p3.1)))) else (some (.inr (p3.2.1,p3.1)))
noncomputable def M.Z3 (a0:List ZF) (p1:Int):Option (Int ⊕ (Unit ⊕ ((List ZF) × Nat))) :=
 bif decide (p1 < (a0.length:Int)) then (gd [decide (0≤p1),decide (p1 < (a0.length:Int)),decide (0≤(wr .i64 (p1 - 1))),decide ((wr .i64 (p1 - 1)) < (a0.length:Int))] (bif ((((a0.getD (0+p1.toNat) default).ZP)==((a0.getD (0+(wr .i64 (p1 - 1)).toNat) default).ZP))&&((((a0.getD (0+p1.toNat) default).Zm)==((a0.getD (0+(wr .i64 (p1 - 1)).toNat) default).Zm))&&true)) then (gd [decide (0≤p1),decide (p1≤(a0.length:Int))] ((loopM (M.Xl a0 p1) (a0,p1,1)).bind fun y6=>gd [decide (0≤y6.1),decide (y6.1≤(y6.2.length:Int))] (gd [decide (0≤y6.1),decide (y6.1≤(((clrL y6.2 (0+y6.1.toNat) (y6.2.length - y6.1.toNat) (⟨0,0⟩:ZF)).length:Nat):Int))] (gd [decide ((clrL y6.2 (0+y6.1.toNat) (y6.2.length - y6.1.toNat) (⟨0,0⟩:ZF)).length=a0.length)] (some (.inr (.inr (clrL y6.2 (0+y6.1.toNat) (y6.2.length - y6.1.toNat) (⟨0,0⟩:ZF),y6.1.toNat - 0)))))))) else (some (.inl (wr .i64 (p1+1)))))) else (some (.inr (.inl ())))
noncomputable def M.XT (a0:List ZF):Option ((List ZF) × Nat) :=
 bif decide ((a0.length:Int) < 2) then (some (a0,a0.length)) else ((loopM (M.Z3 a0) 1).bind fun y7=>Sum.elim (fun _=>some (a0,a0.length)) (fun y9=>some y9) y7)
noncomputable def M.Jd (p2:(List ZF) × Int) (p4:(List ZF)):Option (((List ZF) × Int) ⊕ (List ZF)) :=
 some (.inl (p4,wr .i64 (p2.2+1)))
noncomputable def M.JI (a0:XL) (a2:Int) (r1:(List ZF)) (p2:(List ZF) × Int):Option (((List ZF) × Int) ⊕ (List ZF)) :=
 bif decide (p2.2 < (r1.length:Int)) then (gd [decide (0≤p2.2),decide (p2.2 < (r1.length:Int))] ((M.Us a0 a2 ((r1.getD p2.2.toNat default).ZP)).bind fun r5=>bif r5 then (gd [decide ((p2.1.length+1)*16≤140737488355328)] (M.Jd p2 (p2.1++[r1.getD p2.2.toNat default]))) else (M.Jd p2 p2.1))) else (some (.inr p2.1))
noncomputable def M.JJ (a0:XL) (a1:List ZM) (a2:Int) (a3:Int):Option (List ZF) :=
 bif (decide (a3 < 0))||(decide (a3 ≥ (a1.length:Int))) then (some ([]:List ZF)) else ((M.Wv a1 a3).bind fun r1=>(loopM (M.JI a0 a2 r1) (([]:List ZF),0)).bind fun y6=>(M.XI y6).bind fun r7=>gd [decide (r7.length=y6.length)] ((M.XT r7).bind fun r8=>gd [decide (r8.1.length=r7.length),decide (r8.2≤r8.1.length)] (gd [decide (r8.2≤r8.1.length)] (some (r8.1.take r8.2)))))
noncomputable def M.VT (a0:XL) (a1:List ZM) (a2:Int) (p1:(List Xx) × Int):Option (((List Xx) × Int) ⊕ (List Xx)) :=
 bif decide (p1.2 < (a1.length:Int)) then (gd [decide (0≤p1.2),decide (p1.2 < (a1.length:Int))] ((M.JJ a0 a1 a2 p1.2).bind fun r3=>gd [decide ((p1.1.length+1)*48≤140737488355328)] (some (.inl (p1.1++[(⟨(a1.getD p1.2.toNat default).Zh,r3,(a1.getD p1.2.toNat default).ZS⟩:Xx)],wr .i64 (p1.2+1)))))) else (some (.inr p1.1))
noncomputable def M.W5 (a0:XL) (a1:List ZM) (a2:Int):Option (List Xx) :=
 (loopM (M.VT a0 a1 a2) (([]:List Xx),0)).bind fun y4=>some y4
noncomputable def M.JV (a0:XL) (a1:Int) (a2:Int) (p1:Int) (p3:Int):Option (Int ⊕ (Unit ⊕ Int)) :=
 gd [decide (0≤p1),decide (p1 < (a0.Yf.Xe.length:Int))] (bif decide (p3 < (((a0.Yf.Xe.getD p1.toNat default).ZW).length:Int)) then (gd [decide (0≤p1),decide (p1 < (a0.Yf.Xe.length:Int)),decide (0≤p3),decide (p3 < (((a0.Yf.Xe.getD p1.toNat default).ZW).length:Int))] (bif ((((((a0.Yf.Xe.getD p1.toNat default).ZW).getD p3.toNat default).UQ)==a1)&&((((((a0.Yf.Xe.getD p1.toNat default).ZW).getD p3.toNat default).ZP)==a2)&&true)) then (some (.inr (.inr p1))) else (some (.inl (wr .i64 (p3+1)))))) else (some (.inr (.inl ()))))
noncomputable def M.JW (a0:XL) (a1:Int) (a2:Int) (p1:Int):Option (Int ⊕ (Unit ⊕ Int)) :=
 bif decide (p1 < (a0.Yf.Xe.length:Int)) then ((loopM (M.JV a0 a1 a2 p1) 0).bind fun y5=>Sum.elim (fun _=>some (.inl (wr .i64 (p1+1)))) (fun y7=>some (.inr (.inr y7))) y5) else (some (.inr (.inl ())))
noncomputable def M.J4 (a0:XL) (a1:Int) (a2:Int):Option Int :=
 (loopM (M.JW a0 a1 a2) 0).bind fun y8=>Sum.elim (fun _=>some (-1)) (fun y10=>some y10) y8
noncomputable def M.Vf (a0:XL) (r1:Int) (p2:Int):Option (Int ⊕ (Unit ⊕ Int)) :=
 bif decide (p2 < (a0.Yf.J0.length:Int)) then (gd [guardB (decide (r1 ≥ 0)) (decide (0≤p2)),guardB (decide (r1 ≥ 0)) (decide (p2 < (a0.Yf.J0.length:Int)))] (bif (decide (r1 ≥ 0))&&((a0.Yf.J0.getD p2.toNat default)==r1) then (some (.inr (.inr p2))) else (some (.inl (wr .i64 (p2+1)))))) else (some (.inr (.inl ())))
noncomputable def M.WY (a0:XL) (a1:Int) (a2:Int):Option Int :=
 (M.J4 a0 a1 a2).bind fun r1=>(loopM (M.Vf a0 r1) 0).bind fun y4=>Sum.elim (fun _=>some (-1)) (fun y6=>some y6) y4
noncomputable def M.WM (a0:XL) (r2:Int) (p3:Int):Option (Int ⊕ (Unit ⊕ Bool)) :=
 bif decide (p3 < (a0.Jx.length:Int)) then (gd [decide (0≤p3),decide (p3 < (a0.Jx.length:Int))] (bif (a0.Jx.getD p3.toNat default)==r2 then (some (.inr (.inr false))) else (some (.inl (wr .i64 (p3+1)))))) else (some (.inr (.inl ())))
noncomputable def M.Gz (a0:XL) (a1:Int) (a2:Int):Option Bool :=
 (M.J4 a0 a1 a2).bind fun r1=>bif decide (r1 < 0) then (some false) else ((M.WY a0 a1 a2).bind fun r2=>(loopM (M.WM a0 r2) 0).bind fun y5=>Sum.elim (fun _=>some true) (fun y7=>some y7) y5)
noncomputable def M.KA (p1:(List ZF) × Int) (p3:(List ZF)):Option (((List ZF) × Int) ⊕ (List ZF)) :=
 some (.inl (p3,wr .i64 (p1.2+1)))
noncomputable def M.KB (a0:XL) (a1:Int) (a2:List ZF) (p1:(List ZF) × Int):Option (((List ZF) × Int) ⊕ (List ZF)) :=
 bif decide (p1.2 < (a2.length:Int)) then ((M.Gz a0 a1 ((a2.getD p1.2.toNat default).ZP)).bind fun r4=>gd [decide (0≤p1.2),decide (p1.2 < (a2.length:Int))] (bif r4 then (gd [decide (0≤p1.2),decide (p1.2 < (a2.length:Int)),decide ((p1.1.length+1)*16≤140737488355328)] (M.KA p1 (p1.1++[a2.getD p1.2.toNat default]))) else (M.KA p1 p1.1))) else (some (.inr p1.1))
noncomputable def M.K4 (a0:XL) (a1:Int) (a2:List ZF):Option (List ZF) :=
 (loopM (M.KB a0 a1 a2) (([]:List ZF),0)).bind fun y5=>some y5
noncomputable def M.Uc (p1:Int × Int) (p3:Int):Option ((Int × Int) ⊕ Int) :=
 some (.inl (p3,wr .i64 (p1.2+1)))
noncomputable def M.Ud (a0:List ZM) (a1:ZL) (a2:Int) (p1:Int × Int):Option ((Int × Int) ⊕ Int) :=
 bif decide (p1.2 < (a0.length:Int)) then ((gc (!(((((a0.getD p1.2.toNat default).Zh).Zm)==a1.Zm)&&(((((a0.getD p1.2.toNat default).Zh).ZE)==a1.ZE)&&true))) (M.Jf ((a0.getD p1.2.toNat default).Zh) a2)).bind fun r4=>gd [decide (0≤p1.2),decide (p1.2 < (a0.length:Int)),guardB (!(((((a0.getD p1.2.toNat default).Zh).Zm)==a1.Zm)&&(((((a0.getD p1.2.toNat default).Zh).ZE)==a1.ZE)&&true))) (decide (0≤p1.2)),guardB (!(((((a0.getD p1.2.toNat default).Zh).Zm)==a1.Zm)&&(((((a0.getD p1.2.toNat default).Zh).ZE)==a1.ZE)&&true))) (decide (p1.2 < (a0.length:Int))),guardB (((!(((((a0.getD p1.2.toNat default).Zh).Zm)==a1.Zm)&&(((((a0.getD p1.2.toNat default).Zh).ZE)==a1.ZE)&&true)))&&r4) && !(decide (p1.1 < 0))) (decide (0≤p1.2)),guardB (((!(((((a0.getD p1.2.toNat default).Zh).Zm)==a1.Zm)&&(((((a0.getD p1.2.toNat default).Zh).ZE)==a1.ZE)&&true)))&&r4) && !(decide (p1.1 < 0))) (decide (p1.2 < (a0.length:Int))),guardB (((!(((((a0.getD p1.2.toNat default).Zh).Zm)==a1.Zm)&&(((((a0.getD p1.2.toNat default).Zh).ZE)==a1.ZE)&&true)))&&r4) && !(decide (p1.1 < 0))) (decide (0≤p1.1)),guardB (((!(((((a0.getD p1.2.toNat default).Zh).Zm)==a1.Zm)&&(((((a0.getD p1.2.toNat default).Zh).ZE)==a1.ZE)&&true)))&&r4) && !(decide (p1.1 < 0))) (decide (p1.1 < (a0.length:Int)))] (bif ((!(((((a0.getD p1.2.toNat default).Zh).Zm)==a1.Zm)&&(((((a0.getD p1.2.toNat default).Zh).ZE)==a1.ZE)&&true)))&&r4)&&((decide (p1.1 < 0))||(decide ((((a0.getD p1.2.toNat default).Zh).ZE) > (((a0.getD p1.1.toNat default).Zh).ZE)))) then (M.Uc p1 p1.2) else (M.Uc p1 p1.1))) else (some (.inr p1.1))
noncomputable def M.UB (a0:List ZM) (a1:ZL) (a2:Int):Option Int :=
 (loopM (M.Ud a0 a1 a2) ((-1),0)).bind fun y5=>some y5
noncomputable def M.W6 (a0:List ZF) (a1:ZF) (p1:Int):Option (Int ⊕ Int) :=
 (gc (decide (p1 < (a0.length:Int))) (M.Qf (a0.getD p1.toNat default) a1)).bind fun r3=>gd [guardB (decide (p1 < (a0.length:Int))) (decide (0≤p1)),guardB (decide (p1 < (a0.length:Int))) (decide (p1 < (a0.length:Int)))] (bif (decide (p1 < (a0.length:Int)))&&r3 then (some (.inl (wr .i64 (p1+1)))) else (some (.inr p1)))
noncomputable def M.Gl (a0:List ZF) (a1:ZF):Option (List ZF) :=
 (loopM (M.W6 a0 a1) 0).bind fun y4=>gd [guardB (decide (y4 < (a0.length:Int))) (decide (0≤y4)),guardB (decide (y4 < (a0.length:Int))) (decide (y4 < (a0.length:Int)))] (bif (decide (y4 < (a0.length:Int)))&&((((a0.getD y4.toNat default).ZP)==a1.ZP)&&((((a0.getD y4.toNat default).Zm)==a1.Zm)&&true)) then (some a0) else (gd [decide (0≤y4),decide (y4≤(a0.length:Int)),decide (0=0)||decide (0 < (y4.toNat - 0)),decide ((0+(y4.toNat - 0))*16≤140737488355328),decide (((0+(y4.toNat - 0))+1)*16≤140737488355328),decide (0≤y4),decide (y4≤(a0.length:Int)),decide ((((0+(y4.toNat - 0))+1)+(a0.length - y4.toNat))*16≤140737488355328)] (some (((((a0.drop 0).take (y4.toNat - 0)):List ZF)++([a1]))++((a0.drop y4.toNat).take (a0.length - y4.toNat))))))
noncomputable def M.UC (a1:List ZF) (p1:(List ZF) × Int):Option (((List ZF) × Int) ⊕ (List ZF)) :=
 bif decide (p1.2 < (a1.length:Int)) then ((M.Gl p1.1 (a1.getD p1.2.toNat default)).bind fun r3=>gd [decide (0≤p1.2),decide (p1.2 < (a1.length:Int))] (some (.inl (r3,wr .i64 (p1.2+1))))) else (some (.inr p1.1))
noncomputable def M.GA (a0:List ZF) (a1:List ZF):Option (List ZF) :=
 (loopM (M.UC a1) (a0,0)).bind fun y4=>some y4
noncomputable def M.UD (a1:List ZM) (r4:Int) (p5:(List ZF) × Int) (p7:Int):Option (((List ZF) × Int) ⊕ (List ZF)) :=
 (M.GA p5.1 ([(⟨(((a1.getD r4.toNat default).ZQ).getD p5.2.toNat default).ZP,p7⟩:ZF)]:List ZF)).bind fun r8=>some (.inl (r8,wr .i64 (p5.2+1)))
noncomputable def M.We (a1:List ZM) (p2:(List Bool) × Int) (r4:Int) (p5:(List ZF) × Int):Option (((List ZF) × Int) ⊕ (List ZF)) :=
 gd [decide (0≤r4),decide (r4 < (a1.length:Int))] (bif decide (p5.2 < (((a1.getD r4.toNat default).ZQ).length:Int)) then (gd [decide (0≤r4),decide (r4 < (a1.length:Int)),decide (0≤p5.2),decide (p5.2 < (((a1.getD r4.toNat default).ZQ).length:Int))] (bif ((((a1.getD r4.toNat default).ZQ).getD p5.2.toNat default).Zm)==0 then (M.UD a1 r4 p5 ((a1.getD p2.2.toNat default).YF)) else (M.UD a1 r4 p5 ((((a1.getD r4.toNat default).ZQ).getD p5.2.toNat default).Zm)))) else (some (.inr p5.1)))
noncomputable def M.Wf (a0:XL) (a1:List ZM) (a2:Int) (p2:(List Bool) × Int):Option (((List Bool) × Int) ⊕ (List ZF)) :=
 gd [decide (0≤p2.2),decide (p2.2 < (p2.1.length:Int))] (gd [decide (0≤p2.2),decide (p2.2 < (a1.length:Int))] ((M.UB a1 ((a1.getD p2.2.toNat default).Zh) ((a1.getD p2.2.toNat default).YF)).bind fun r4=>gd [decide (0≤p2.2),decide (p2.2 < (a1.length:Int))] (gd [guardB (!(decide (r4 < 0))) (decide (0≤r4)),guardB (!(decide (r4 < 0))) (decide (r4 < (a1.length:Int))),guardB (!((decide (r4 < 0))||((a1.getD r4.toNat default).ZS))) (decide (0≤r4)),guardB (!((decide (r4 < 0))||((a1.getD r4.toNat default).ZS))) (decide (r4 < (((p2.1.set (0+p2.2.toNat) true).length:Nat):Int)))] (bif ((decide (r4 < 0))||((a1.getD r4.toNat default).ZS))||((p2.1.set (0+p2.2.toNat) true).getD (0+r4.toNat) default) then (some (.inr ([]:List ZF))) else (gd [decide (0≤r4),decide (r4 < (a1.length:Int)),guardB (((a1.getD r4.toNat default).XR)==2) (decide (0≤r4)),guardB (((a1.getD r4.toNat default).XR)==2) (decide (r4 < (a1.length:Int)))] (bif (((a1.getD r4.toNat default).XR)==2)&&(((a1.getD r4.toNat default).YF) != 0) then (some (.inl (p2.1.set (0+p2.2.toNat) true,r4))) else ((loopM (M.We a1 p2 r4) (([]:List ZF),0)).bind fun y9=>(M.K4 a0 a2 y9).bind fun r10=>some (.inr r10))))))))
noncomputable def M.Wm (a0:XL) (a1:List ZM) (a2:Int) (a3:Int):Option (List ZF) :=
 gd [guardB (!((decide (a3 < 0))||(decide (a3 ≥ (a1.length:Int))))) (decide (0≤a3)),guardB (!((decide (a3 < 0))||(decide (a3 ≥ (a1.length:Int))))) (decide (a3 < (a1.length:Int)))] (bif ((decide (a3 < 0))||(decide (a3 ≥ (a1.length:Int))))||((a1.getD a3.toNat default).ZS) then (some ([]:List ZF)) else (gd [decide (0≤a3),decide (a3 < (a1.length:Int)),guardB (!(((a1.getD a3.toNat default).XR) != 2)) (decide (0≤a3)),guardB (!(((a1.getD a3.toNat default).XR) != 2)) (decide (a3 < (a1.length:Int)))] (bif (((a1.getD a3.toNat default).XR) != 2)||(((a1.getD a3.toNat default).YF)==0) then ((M.K4 a0 a2 ((a1.getD a3.toNat default).ZQ)).bind fun r1=>gd [decide (0≤a3),decide (a3 < (a1.length:Int))] (some r1)) else (gd [decide (0≤(a1.length:Int)),decide ((a1.length:Int)≤(a1.length:Int)),decide ((a1.length:Int).toNat*1≤140737488355328),decide ((a1.length:Int).toNat≤140737488355328)] ((loopM (M.Wf a0 a1 a2) (List.replicate ((a1.length:Int).toNat) false,a3)).bind fun y11=>some y11)))))
noncomputable def M.Gf (a0:XL) (a1:List ZM) (a2:Int) (p1:(List Xx) × Int):Option (((List Xx) × Int) ⊕ (List Xx)) :=
 bif decide (p1.2 < (a1.length:Int)) then ((M.Wm a0 a1 a2 p1.2).bind fun r3=>gd [decide (0≤p1.2),decide (p1.2 < (a1.length:Int)),decide (0≤p1.2),decide (p1.2 < (a1.length:Int)),decide ((p1.1.length+1)*48≤140737488355328)] (some (.inl (p1.1++[(⟨(a1.getD p1.2.toNat default).Zh,r3,(a1.getD p1.2.toNat default).ZS⟩:Xx)],wr .i64 (p1.2+1))))) else (some (.inr p1.1))
noncomputable def M.KC (a0:XL) (a1:List ZM) (a2:Int):Option (List Xx) :=
 (loopM (M.Gf a0 a1 a2) (([]:List Xx),0)).bind fun y4=>some y4
noncomputable def M.WE (a0:Xx) (a1:Xx) (p1:Int):Option (Int ⊕ (Unit ⊕ Bool)) :=
 bif decide (p1 < (a0.ZQ.length:Int)) then (gd [decide (0≤p1),decide (p1 < (a0.ZQ.length:Int)),decide (0≤p1),decide (p1 < (a1.ZQ.length:Int))] (bif !((((a0.ZQ.getD p1.toNat default).ZP)==((a1.ZQ.getD p1.toNat default).ZP))&&((((a0.ZQ.getD p1.toNat default).Zm)==((a1.ZQ.getD p1.toNat default).Zm))&&true)) then (some (.inr (.inr false))) else (some (.inl (wr .i64 (p1+1)))))) else (some (.inr (.inl ())))
noncomputable def M.UE (a0:Xx) (a1:Xx):Option Bool :=
 bif (!(a0.ZS==a1.ZS))||((a0.ZQ.length:Int) != (a1.ZQ.length:Int)) then (some false) else ((loopM (M.WE a0 a1) 0).bind fun y3=>Sum.elim (fun _=>some true) (fun y5=>some y5) y3)
noncomputable def M.V5 (a0:List Xx) (a1:List Xx) (p1:Int):Option (Int ⊕ (Unit ⊕ Bool)) :=
 bif decide (p1 < (a0.length:Int)) then ((gc (!(!(((((a0.getD p1.toNat default).Zh).Zm)==(((a1.getD p1.toNat default).Zh).Zm))&&(((((a0.getD p1.toNat default).Zh).ZE)==(((a1.getD p1.toNat default).Zh).ZE))&&true)))) (M.UE (a0.getD p1.toNat default) (a1.getD p1.toNat default))).bind fun r3=>gd [decide (0≤p1),decide (p1 < (a0.length:Int)),decide (0≤p1),decide (p1 < (a1.length:Int)),guardB (!(!(((((a0.getD p1.toNat default).Zh).Zm)==(((a1.getD p1.toNat default).Zh).Zm))&&(((((a0.getD p1.toNat default).Zh).ZE)==(((a1.getD p1.toNat default).Zh).ZE))&&true)))) (decide (0≤p1)),guardB (!(!(((((a0.getD p1.toNat default).Zh).Zm)==(((a1.getD p1.toNat default).Zh).Zm))&&(((((a0.getD p1.toNat default).Zh).ZE)==(((a1.getD p1.toNat default).Zh).ZE))&&true)))) (decide (p1 < (a0.length:Int))),guardB (!(!(((((a0.getD p1.toNat default).Zh).Zm)==(((a1.getD p1.toNat default).Zh).Zm))&&(((((a0.getD p1.toNat default).Zh).ZE)==(((a1.getD p1.toNat default).Zh).ZE))&&true)))) (decide (0≤p1)),guardB (!(!(((((a0.getD p1.toNat default).Zh).Zm)==(((a1.getD p1.toNat default).Zh).Zm))&&(((((a0.getD p1.toNat default).Zh).ZE)==(((a1.getD p1.toNat default).Zh).ZE))&&true)))) (decide (p1 < (a1.length:Int)))] (bif (!(((((a0.getD p1.toNat default).Zh).Zm)==(((a1.getD p1.toNat default).Zh).Zm))&&(((((a0.getD p1.toNat default).Zh).ZE)==(((a1.getD p1.toNat default).Zh).ZE))&&true)))||(!r3) then (some (.inr (.inr false))) else (some (.inl (wr .i64 (p1+1)))))) else (some (.inr (.inl ())))
noncomputable def M.Wg (a0:List Xx) (a1:List Xx):Option Bool :=
 bif (a0.length:Int) != (a1.length:Int) then (some false) else ((loopM (M.V5 a0 a1) 0).bind fun y4=>Sum.elim (fun _=>some true) (fun y6=>some y6) y4)
noncomputable def M.G5 (a0:List ZF) (a1:List ZF) (p1:Int):Option (Int ⊕ (Unit ⊕ Bool)) :=
 bif decide (p1 < (a0.length:Int)) then (gd [decide (0≤p1),decide (p1 < (a0.length:Int)),decide (0≤p1),decide (p1 < (a1.length:Int))] (bif !((((a0.getD p1.toNat default).ZP)==((a1.getD p1.toNat default).ZP))&&((((a0.getD p1.toNat default).Zm)==((a1.getD p1.toNat default).Zm))&&true)) then (some (.inr (.inr false))) else (some (.inl (wr .i64 (p1+1)))))) else (some (.inr (.inl ())))
noncomputable def M.RK (a0:List ZF) (a1:List ZF):Option Bool :=
 bif (a0.length:Int) != (a1.length:Int) then (some false) else ((loopM (M.G5 a0 a1) 0).bind fun y3=>Sum.elim (fun _=>some true) (fun y5=>some y5) y3)
noncomputable def M.Ww (a0:Int):Option Bool :=
 some (((decide (65≤a0))&&(decide (a0≤90)))||((decide (97≤a0))&&(decide (a0≤122))))
noncomputable def M.US (a0:Int):Option Bool :=
 some ((decide (48≤a0))&&(decide (a0≤57)))
noncomputable def M.Ue (a0:ByteArray) (p2:Int):Option (Int ⊕ Unit) :=
 bif decide (p2 < (a0.size:Int)) then (gd [decide (0≤p2),decide (p2 < (a0.size:Int))] ((M.Ww (byteAt a0 p2)).bind fun r4=>(gc (!r4) (M.US (byteAt a0 p2))).bind fun r5=>bif (((((!r4)&&(!r5))&&((byteAt a0 p2) != 45))&&((byteAt a0 p2) != 95))&&((byteAt a0 p2) != 47))&&((byteAt a0 p2) != 46) then none else (some (.inl (wr .i64 (p2+1)))))) else (some (.inr ()))
noncomputable def M.UF (a0:ByteArray):Option Bool :=
 (gc (!((decide ((a0.size:Int) < 1))||(decide ((a0.size:Int) > 15)))) (M.Ww (byteAt a0 0))).bind fun r1=>gd [guardB (!((decide ((a0.size:Int) < 1))||(decide ((a0.size:Int) > 15)))) (decide (0≤0)),guardB (!((decide ((a0.size:Int) < 1))||(decide ((a0.size:Int) > 15)))) (decide (0 < (a0.size:Int)))] (bif ((decide ((a0.size:Int) < 1))||(decide ((a0.size:Int) > 15)))||(!r1) then none else ((loopM (M.Ue a0) 1).bind fun y6=>some true))
noncomputable def M.YW (a0:Int) (a1:Int) (a2:Int):Option Bool :=
 some ((decide (a1≤a0))&&(decide (a0≤a2)))
noncomputable def M.Jt (a0:ZA) (b0:ByteArray):Option Bool :=
 some (strEq a0.XG b0)
noncomputable def M.ZK (a0:List ZA) (a1c0:ByteArray) (p1:Int):Option (Int ⊕ (Unit ⊕ Int)) :=
 bif decide (p1 < (a0.length:Int)) then ((M.Jt (a0.getD p1.toNat default) a1c0).bind fun r3=>gd [decide (0≤p1),decide (p1 < (a0.length:Int))] (bif r3 then (some (.inr (.inr p1))) else (some (.inl (wr .i64 (p1+1)))))) else (some (.inr (.inl ())))
noncomputable def M.ZH (a0:List ZA) (a1c0:ByteArray):Option Int :=
 (loopM (M.ZK a0 a1c0) 0).bind fun y4=>Sum.elim (fun _=>some (-1)) (fun y6=>some y6) y4
noncomputable def M.Vp (a0:Zi) (a1:ByteArray):Option Int :=
 (M.ZH a0.Zc a1).bind fun r1=>some r1
noncomputable def M.Qv (a0:ZA):Option Bool :=
 (M.YW a0.ZE 0 32).bind fun r1=>(gc (!(!r1)) (M.YW a0.XN 0 4094)).bind fun r2=>(gc (!((!r1)||(!r2))) (M.YW a0.Zbj 0 2)).bind fun r3=>bif ((!r1)||(!r2))||(!r3) then none else (bif (a0.ZE==0)&&(((((((a0.Zm != 0)||(a0.XN != 0))||(a0.Zbj != 0))||a0.YC)||a0.YK)||(!strEq a0.WH (⟨#[]⟩:ByteArray)))||(!strEq a0.Qz (⟨#[]⟩:ByteArray))) then none else (bif (a0.ZE != 0)&&(a0.Zm==0) then none else (bif a0.YC then none else (some ((a0.WS==0)&&(a0.ZdL==0))))))
noncomputable def M.YZ (p1:Int) (p6:Int):Option (Int ⊕ Unit) :=
 bif decide (p6 < ((p1.toNat - 0:Nat):Int)) then none else (some (.inr ()))
noncomputable def M.Y0 (a0:Zi) (p1:Int):Option (Int ⊕ Unit) :=
 bif decide (p1 < (a0.Zc.length:Int)) then (gd [decide (0≤p1),decide (p1 < (a0.Zc.length:Int))] ((M.UF ((a0.Zc.getD p1.toNat default).XG)).bind fun r3=>bif !r3 then none else ((M.Vp a0 ((a0.Zc.getD p1.toNat default).XG)).bind fun r4=>bif decide (r4 < p1) then none else ((M.Qv (a0.Zc.getD p1.toNat default)).bind fun r5=>bif !r5 then none else (gd [decide (0≤p1),decide (p1≤(a0.Zc.length:Int))] ((loopM (M.YZ p1) 0).bind fun y8=>some (.inl (wr .i64 (p1+1))))))))) else (some (.inr ()))
noncomputable def M.Qa (a0:Zi):Option Int :=
 bif decide ((a0.Zc.length:Int) > 8) then none else ((loopM (M.Y0 a0) 0).bind fun y9=>some 0)
noncomputable def M.YQ (a0:Zi) (p1:Int):Option (Int ⊕ Unit) :=
 bif decide (p1 < (a0.YV.length:Int)) then none else (some (.inr ()))
noncomputable def M.YX (a0:Zi):Option Int :=
 bif decide ((a0.YV.length:Int) > 8) then none else ((loopM (M.YQ a0) 0).bind fun y3=>some 0)
noncomputable def M.Qe (a0:Zi) (p1:Int):Option (Int ⊕ Unit) :=
 bif decide (p1 < (a0.XP.length:Int)) then none else (some (.inr ()))
noncomputable def M.Qw (a0:Zi):Option Int :=
 bif decide ((a0.XP.length:Int) > 8) then none else ((loopM (M.Qe a0) 0).bind fun y3=>some 0)
noncomputable def M.JK (a0:Zi) (p1:Int):Option (Int ⊕ Unit) :=
 bif decide (p1 < (a0.Y5.length:Int)) then none else (some (.inr ()))
noncomputable def M.Vq (a0:Zi):Option Int :=
 bif decide ((a0.Y5.length:Int) > 8) then none else ((loopM (M.JK a0) 0).bind fun y3=>some 0)
noncomputable def M.J9 (a0:Zi) (p1:Int):Option (Int ⊕ Unit) :=
 bif decide (p1 < (a0.Xf.length:Int)) then none else (some (.inr ()))
noncomputable def M.VU (a0:Zi):Option Int :=
 bif decide ((a0.Xf.length:Int) > 8) then none else ((loopM (M.J9 a0) 0).bind fun y3=>some 0)
noncomputable def M.UG (_a0:Zi) (_a1:ByteArray):Option Int :=
 none
noncomputable def M.QC (a0:Zi) (p1:Int):Option (Int ⊕ Unit) :=
 bif decide (p1 < (a0.Zc.length:Int)) then (gd [decide (0≤p1),decide (p1 < (a0.Zc.length:Int))] ((gc (!strEq ((a0.Zc.getD p1.toNat default).WH) (⟨#[]⟩:ByteArray)) (M.UG a0 ((a0.Zc.getD p1.toNat default).WH))).bind fun r3=>(gc ((!((!strEq ((a0.Zc.getD p1.toNat default).WH) (⟨#[]⟩:ByteArray))&&(decide (r3 < 0))))&&(!strEq ((a0.Zc.getD p1.toNat default).Qz) (⟨#[]⟩:ByteArray))) (M.UG a0 ((a0.Zc.getD p1.toNat default).Qz))).bind fun r4=>bif ((!strEq ((a0.Zc.getD p1.toNat default).WH) (⟨#[]⟩:ByteArray))&&(decide (r3 < 0)))||((!strEq ((a0.Zc.getD p1.toNat default).Qz) (⟨#[]⟩:ByteArray))&&(decide (r4 < 0))) then none else (some (.inl (wr .i64 (p1+1)))))) else (some (.inr ()))
noncomputable def M.Q0 (a0:Zi):Option Int :=
 (loopM (M.QC a0) 0).bind fun y5=>some 0
noncomputable def M.UT (a0:ZL):Option Bool :=
 (gc ((decide (a0.ZE ≥ 0))&&(decide (a0.ZE≤32))) (M.J3 a0.ZE)).bind fun r1=>some (((decide (a0.ZE ≥ 0))&&(decide (a0.ZE≤32)))&&((bitD .andNot .u32 a0.Zm r1)==0))
noncomputable def M.Vr (a0:ZA) (b0:Int):Option Bool :=
 some ((a0.ZE != 0)&&(a0.Zm==b0))
noncomputable def M.ZO (a0:List ZA) (a1c0:Int) (p1:Int):Option (Int ⊕ (Unit ⊕ Int)) :=
 bif decide (p1 < (a0.length:Int)) then ((M.Vr (a0.getD p1.toNat default) a1c0).bind fun r3=>gd [decide (0≤p1),decide (p1 < (a0.length:Int))] (bif r3 then (some (.inr (.inr p1))) else (some (.inl (wr .i64 (p1+1)))))) else (some (.inr (.inl ())))
noncomputable def M.ZJ (a0:List ZA) (a1c0:Int):Option Int :=
 (loopM (M.ZO a0 a1c0) 0).bind fun y4=>Sum.elim (fun _=>some (-1)) (fun y6=>some y6) y4
noncomputable def M.Wn (a0:Zi) (a1:Int):Option Int :=
 (M.ZJ a0.Zc a1).bind fun r1=>some r1
noncomputable def M.YE (p1:Int × Int) (p3:Int):Option ((Int × Int) ⊕ Int) :=
 some (.inl (p3,wr .i64 (p1.2+1)))
noncomputable def M.QW (a1:X8) (p1:Int × Int):Option ((Int × Int) ⊕ Int) :=
 bif decide (p1.2 < 3) then (gd [decide (0≤p1.2),decide (p1.2 < (([a1.YF != 0,!strEq a1.ZP (⟨#[]⟩:ByteArray),a1.ZS]:List Bool).length:Int))] (bif ([a1.YF != 0,!strEq a1.ZP (⟨#[]⟩:ByteArray),a1.ZS]:List Bool).getD p1.2.toNat default then (M.YE p1 (wr .i64 (p1.1+1))) else (M.YE p1 p1.1))) else (some (.inr p1.1))
noncomputable def M.Ju (a0:Zi) (a1:X8):Option Bool :=
 (loopM (M.QW a1) (0,0)).bind fun y4=>(M.UT a1.Zh).bind fun r5=>(gc ((r5&&(y4==1)) && !(a1.YF==0)) (M.Wn a0 a1.YF)).bind fun r6=>(gc ((r5&&(y4==1))&&((a1.YF==0)||(decide (r6 < 0)))) (M.YW a1.Z5 1 255)).bind fun r7=>(gc (((r5&&(y4==1))&&((a1.YF==0)||(decide (r6 < 0))))&&r7) (M.YW a1.UP 0 65535)).bind fun r8=>some ((((r5&&(y4==1))&&((a1.YF==0)||(decide (r6 < 0))))&&r7)&&r8)
noncomputable def M.QD (p1:Int) (p5:Int):Option (Int ⊕ Unit) :=
 bif decide (p5 < ((p1.toNat - 0:Nat):Int)) then none else (some (.inr ()))
noncomputable def M.Qb (a0:Zi) (p1:Int) (_p4:Unit):Option (Int ⊕ Unit) :=
 gd [decide (0≤p1),decide (p1≤(a0.Zq.length:Int))] ((loopM (M.QD p1) 0).bind fun y7=>some (.inl (wr .i64 (p1+1))))
noncomputable def M.QE (a0:Zi) (p1:Int):Option (Int ⊕ Unit) :=
 bif decide (p1 < (a0.Zq.length:Int)) then (gd [decide (0≤p1),decide (p1 < (a0.Zq.length:Int))] ((M.Ju a0 (a0.Zq.getD p1.toNat default)).bind fun r3=>bif !r3 then none else (bif !strEq ((a0.Zq.getD p1.toNat default).ZP) (⟨#[]⟩:ByteArray) then none else (M.Qb a0 p1 ())))) else (some (.inr ()))
noncomputable def M.Q1 (a0:Zi):Option Int :=
 bif decide ((a0.Zq.length:Int) > 16) then none else ((loopM (M.QE a0) 0).bind fun y8=>some 0)
noncomputable def M.Qx (a0:Zi):Option Int :=
 bif !a0.YC.Wr then (bif ((a0.YC.Z5 != 0)||(decide ((a0.YC.Z6.length:Int) > 0)))||(decide ((a0.YC.Zu.length:Int) > 0)) then none else (some 0)) else none
noncomputable def M.Ys (a0:Zi):Option Int :=
 bif !a0.YK.Wr then (bif (((a0.YK.Z5 != 0)||(!strEq a0.YK.WH (⟨#[]⟩:ByteArray)))||(!strEq a0.YK.Qz (⟨#[]⟩:ByteArray)))||(decide ((a0.YK.Zu.length:Int) > 0)) then none else (some 0)) else none
noncomputable def M.Qc (a0:Zi):Option Int :=
 bif !a0.Xz.Wr then (bif ((((((a0.Xz.X6 != 0)||(a0.Xz.X7 != 0))||(decide ((a0.Xz.Zp.length:Int) > 0)))||(decide ((a0.Xz.ZY.length:Int) > 0)))||(decide ((a0.Xz.ZG.length:Int) > 0)))||(decide ((a0.Xz.Zv.length:Int) > 0)))||(decide ((a0.Xz.Zu.length:Int) > 0)) then none else (some 0)) else none
noncomputable def M.Jv (a0:Zi):Option Int :=
 (M.UF a0.XG).bind fun r1=>bif !r1 then none else ((M.YW a0.KQ 0 65535).bind fun r2=>bif !r2 then none else (gd [decide (0≤0),decide (0 < (10:Int))] ((M.Qa a0).bind fun r3=>bif r3 != 0 then none else (gd [decide (0≤1),decide (1 < (10:Int))] ((M.YX a0).bind fun r4=>bif r4 != 0 then none else (gd [decide (0≤2),decide (2 < (10:Int))] ((M.Qw a0).bind fun r5=>bif r5 != 0 then none else (gd [decide (0≤3),decide (3 < (10:Int))] ((M.Vq a0).bind fun r6=>bif r6 != 0 then none else (gd [decide (0≤4),decide (4 < (10:Int))] ((M.VU a0).bind fun r7=>bif r7 != 0 then none else (gd [decide (0≤5),decide (5 < (10:Int))] ((M.Q0 a0).bind fun r8=>bif r8 != 0 then none else (gd [decide (0≤6),decide (6 < (10:Int))] ((M.Q1 a0).bind fun r9=>bif r9 != 0 then none else (gd [decide (0≤7),decide (7 < (10:Int))] ((M.Qx a0).bind fun r10=>bif r10 != 0 then none else (gd [decide (0≤8),decide (8 < (10:Int))] ((M.Ys a0).bind fun r11=>bif r11 != 0 then none else (gd [decide (0≤9),decide (9 < (10:Int))] ((M.Qc a0).bind fun r12=>bif r12 != 0 then none else (some 0))))))))))))))))))))))
noncomputable def M.Wx (p1:Int) (p4:Int):Option (Int ⊕ Unit) :=
 bif decide (p4 < ((p1.toNat - 0:Nat):Int)) then none else (some (.inr ()))
noncomputable def M.Wy (a0:ZI) (p1:Int):Option (Int ⊕ Unit) :=
 bif decide (p1 < (a0.Ze.length:Int)) then (gd [decide (0≤p1),decide (p1 < (a0.Ze.length:Int))] ((M.Jv (a0.Ze.getD p1.toNat default)).bind fun r3=>bif r3 != 0 then none else (gd [decide (0≤p1),decide (p1≤(a0.Ze.length:Int))] ((loopM (M.Wx p1) 0).bind fun y6=>some (.inl (wr .i64 (p1+1))))))) else (some (.inr ()))
noncomputable def M.Uf (a0:ZI):Option Int :=
 bif decide ((a0.Ze.length:Int) > 8) then none else ((loopM (M.Wy a0) 0).bind fun y7=>some 0)
noncomputable def M.WJ (a0:Int) (a1:Int):Option ZL :=
 (M.J3 a1).bind fun r1=>(M.JG a1).bind fun r2=>some (⟨bitD .and .u32 a0 r1,r2⟩:ZL)
noncomputable def M.JL (i:Int) (p:(List Zj) × (List (Xb × Int)) × Int) (q:(List Zj) × (List (Xb × Int)) × Int):Option (((List Zj) × (List (Xb × Int)) × Int) ⊕ ((List Zj) × (List (Xb × Int)))) :=
 gd [decide (0≤q.2.2),decide (q.2.2 < (q.1.length:Int)),decide (((q.1.getD (0+q.2.2.toNat) default).ZW.length+1)*16≤140737488355328)] (some (.inl (q.1.set (0+q.2.2.toNat) ⟨(q.1.getD (0+q.2.2.toNat) default).Zh,(q.1.getD (0+q.2.2.toNat) default).XN,(q.1.getD (0+q.2.2.toNat) default).ZW++[⟨i,p.2.2⟩]⟩,q.2.1,wr .i64 (p.2.2+1))))
noncomputable def M.Vt (a0:ZI) (i:Int) (p:(List Zj) × (List (Xb × Int)) × Int):Option (((List Zj) × (List (Xb × Int)) × Int) ⊕ ((List Zj) × (List (Xb × Int)))) :=
 bif decide (p.2.2 < (((a0.Ze.getD i.toNat default).Zc).length:Int)) then (gd [decide (0≤p.2.2),decide (p.2.2 < (((a0.Ze.getD i.toNat default).Zc).length:Int))] (bif (((a0.Ze.getD i.toNat default).Zc.getD p.2.2.toNat default).ZE==0)||((a0.Ze.getD i.toNat default).Zc.getD p.2.2.toNat default).Jx then (some (.inl (p.1,p.2.1,wr .i64 (p.2.2+1)))) else ((M.WJ ((a0.Ze.getD i.toNat default).Zc.getD p.2.2.toNat default).Zm ((a0.Ze.getD i.toNat default).Zc.getD p.2.2.toNat default).ZE).bind fun r=>bif !(lkM (topoKeyEq ⟨r,((a0.Ze.getD i.toNat default).Zc.getD p.2.2.toNat default).XN⟩) p.2.1).2 then (gd [decide ((p.1.length+1)*48≤140737488355328)] (M.JL i p (p.1++[⟨r,((a0.Ze.getD i.toNat default).Zc.getD p.2.2.toNat default).XN,[]⟩],p.2.1++[(⟨r,((a0.Ze.getD i.toNat default).Zc.getD p.2.2.toNat default).XN⟩,(p.1.length:Int))],(p.1.length:Int)))) else (M.JL i p (p.1,p.2.1,(lkM (topoKeyEq ⟨r,((a0.Ze.getD i.toNat default).Zc.getD p.2.2.toNat default).XN⟩) p.2.1).1))))) else (some (.inr (p.1,p.2.1)))
noncomputable def M.Vu (a0:ZI) (p:(List Zj) × (List (Xb × Int)) × Int):Option (((List Zj) × (List (Xb × Int)) × Int) ⊕ (List Zj)) :=
 bif decide (p.2.2 < (a0.Ze.length:Int)) then (gd [decide (0≤p.2.2),decide (p.2.2 < (a0.Ze.length:Int))] ((loopM (M.Vt a0 p.2.2) (p.1,p.2.1,0)).bind fun y=>some (.inl (y.1,y.2,wr .i64 (p.2.2+1))))) else (some (.inr p.1))
noncomputable def M.WK (a0:ZI):Option (List Zj) :=
 (loopM (M.Vu a0) ([],[],0)).bind fun y=>some y
noncomputable def M.VV (a0:ZL) (a1:ZL):Option Int :=
 (M.Yw a0.Zm a1.Zm).bind fun r1=>bif r1 != 0 then (some r1) else ((M.YO a0.ZE a1.ZE).bind fun r2=>some r2)
noncomputable def M.Vv (a0:Zj) (a1:Zj):Option Int :=
 (M.VV a0.Zh a1.Zh).bind fun r1=>(M.YO a0.XN a1.XN).bind fun r2=>(M.Wd ([r1,r2]:List Int)).bind fun r3=>some r3
noncomputable def M.XM (a0:List Zj):Option (List Zj) :=
 sortU M.Vv a0
noncomputable def M.Wo (p4:Int) (_p6:Unit):Option (Int ⊕ Unit) :=
 some (.inl (wr .i64 (p4+1)))
noncomputable def M.WN (r3:(List Zj)) (p4:Int):Option (Int ⊕ Unit) :=
 bif decide (p4 < (r3.length:Int)) then (gd [decide (0≤p4),decide (p4 < (r3.length:Int))] (bif decide ((((r3.getD p4.toNat default).ZW).length:Int) ≥ 2) then none else (M.Wo p4 ()))) else (some (.inr ()))
noncomputable def M.UU (a0:ZI):Option (JZ × Int) :=
 (M.Uf a0).bind fun r1=>bif r1 != 0 then none else ((M.WK a0).bind fun r2=>(M.XM r2).bind fun r3=>gd [decide (r3.length=r2.length)] ((loopM (M.WN r3) 0).bind fun y7=>some ((⟨r3,([]:List Int)⟩:JZ),0)))
noncomputable def M.XW (a0:List Zi):Option (List Zi) :=
 gd [decide (0=0)||decide (0 < a0.length),decide ((0+a0.length)*448≤140737488355328)] (some a0)
noncomputable def M.Xs (a0:List ZA):Option (List ZA) :=
 gd [decide (0=0)||decide (0 < a0.length),decide ((0+a0.length)*112≤140737488355328)] (some a0)
noncomputable def M.Xm (a0:List Z1):Option (List Z1) :=
 gd [decide (0=0)||decide (0 < a0.length),decide ((0+a0.length)*40≤140737488355328)] (some a0)
noncomputable def M.XE (a0:List Yt):Option (List Yt) :=
 gd [decide (0=0)||decide (0 < a0.length),decide ((0+a0.length)*40≤140737488355328)] (some a0)
noncomputable def M.Ye (a0:List U6):Option (List U6) :=
 gd [decide (0=0)||decide (0 < a0.length),decide ((0+a0.length)*40≤140737488355328)] (some a0)
noncomputable def M.Xh (a0:List QF):Option (List QF) :=
 gd [decide (0=0)||decide (0 < a0.length),decide ((0+a0.length)*64≤140737488355328)] (some a0)
noncomputable def M.Xi (a0:List X8):Option (List X8) :=
 gd [decide (0=0)||decide (0 < a0.length),decide ((0+a0.length)*64≤140737488355328)] (some a0)
noncomputable def M.Xt (a0:List V9):Option (List V9) :=
 gd [decide (0=0)||decide (0 < a0.length),decide ((0+a0.length)*24≤140737488355328)] (some a0)
noncomputable def M.Z8 (a0:List QB):Option (List QB) :=
 gd [decide (0=0)||decide (0 < a0.length),decide ((0+a0.length)*48≤140737488355328)] (some a0)
noncomputable def M.XF (a0:List VB):Option (List VB) :=
 gd [decide (0=0)||decide (0 < a0.length),decide ((0+a0.length)*48≤140737488355328)] (some a0)
noncomputable def M.XX (a0:List ZL):Option (List ZL) :=
 gd [decide (0=0)||decide (0 < a0.length),decide ((0+a0.length)*16≤140737488355328)] (some a0)
noncomputable def M.Xu (a0:List Wa):Option (List Wa) :=
 gd [decide (0=0)||decide (0 < a0.length),decide ((0+a0.length)*24≤140737488355328)] (some a0)
noncomputable def M.Xv (a0:List Wb):Option (List Wb) :=
 gd [decide (0=0)||decide (0 < a0.length),decide ((0+a0.length)*40≤140737488355328)] (some a0)
noncomputable def M.JM (r2:(List Z1)) (p3:Int):Option (Int ⊕ Unit) :=
 bif decide (p3 < (r2.length:Int)) then none else (some (.inr ()))
noncomputable def M.JN (r6:(List Yt)) (p7:Int):Option (Int ⊕ Unit) :=
 bif decide (p7 < (r6.length:Int)) then none else (some (.inr ()))
noncomputable def M.JO (r10:(List U6)) (p11:Int):Option (Int ⊕ Unit) :=
 bif decide (p11 < (r10.length:Int)) then none else (some (.inr ()))
noncomputable def M.Vw (a0:Zi):Option Zi :=
 (M.Xs a0.Zc).bind fun r1=>(M.Xm a0.YV).bind fun r2=>(loopM (M.JM r2) 0).bind fun y5=>(M.XE a0.XP).bind fun r6=>(loopM (M.JN r6) 0).bind fun y9=>(M.Ye a0.Y5).bind fun r10=>(loopM (M.JO r10) 0).bind fun y13=>(M.Xh a0.Xf).bind fun r14=>(M.Xi a0.Zq).bind fun r15=>(M.Xt a0.YC.Z6).bind fun r16=>(M.Z8 a0.YC.Zu).bind fun r17=>(M.Z8 a0.YK.Zu).bind fun r18=>(M.XF a0.Xz.Zp).bind fun r19=>(M.XX a0.Xz.ZY).bind fun r20=>(M.Xu a0.Xz.ZG).bind fun r21=>(M.Xv a0.Xz.Zv).bind fun r22=>(M.Z8 a0.Xz.Zu).bind fun r23=>some (⟨a0.XG,a0.KQ,r1,r2,r6,r10,r14,r15,(⟨a0.YC.Wr,a0.YC.Z5,r16,r17⟩:WB),(⟨a0.YK.Wr,a0.YK.Z5,a0.YK.WH,a0.YK.Qz,r18⟩:Qi),(⟨a0.Xz.Wr,a0.Xz.X6,a0.Xz.X7,r19,r20,r21,r22,r23⟩:XO)⟩:Zi)
noncomputable def M.Jj (r1:(List Zi)) (p2:(List Zi) × Int):Option (((List Zi) × Int) ⊕ (List Zi)) :=
 bif decide (p2.2 < (r1.length:Int)) then ((M.Vw (p2.1.getD (0+p2.2.toNat) default)).bind fun r4=>gd [decide (0≤p2.2),decide (p2.2 < (p2.1.length:Int)),decide (0≤p2.2),decide (p2.2 < (p2.1.length:Int))] (some (.inl (p2.1.set (0+p2.2.toNat) r4,wr .i64 (p2.2+1))))) else (some (.inr p2.1))
noncomputable def M.J5 (a0:ZI):Option ZI :=
 (M.XW a0.Ze).bind fun r1=>(loopM (M.Jj r1) (r1,0)).bind fun y5=>some (⟨y5⟩:ZI)
noncomputable def M.Qy (a0:List Int):Option (List Int) :=
 gd [decide (0=0)||decide (0 < a0.length),decide ((0+a0.length)*8≤140737488355328)] (some a0)
noncomputable def M.Ug (a1:List Int) (p2:Int):Option (Int ⊕ Unit) :=
 bif decide (p2 < (a1.length:Int)) then none else (some (.inr ()))
noncomputable def M.Gm (a0:ZI) (a1:List Int):Option (XL × Int) :=
 (M.UU a0).bind fun r1=>bif r1.2 != 0 then none else (bif decide ((a1.length:Int) > 2) then none else ((loopM (M.Ug a1) 0).bind fun y4=>(M.J5 a0).bind fun r5=>(M.Qy a1).bind fun r6=>some ((⟨r5,r1.1,r6⟩:XL),0)))
noncomputable def M.Vg (p1:Int × Int) (p3:Int):Option ((Int × Int) ⊕ Int) :=
 some (.inl (p3,wr .i64 (p1.2+1)))
noncomputable def M.WO (a0:List Xx) (a1:Int) (p1:Int × Int):Option ((Int × Int) ⊕ Int) :=
 bif decide (p1.2 < (a0.length:Int)) then (gd [decide (0≤p1.2),decide (p1.2 < (a0.length:Int))] ((M.Yn ((a0.getD p1.2.toNat default).Zh) a1).bind fun r4=>gd [guardB (r4 && !(decide (p1.1 < 0))) (decide (0≤p1.1)),guardB (r4 && !(decide (p1.1 < 0))) (decide (p1.1 < (a0.length:Int)))] (bif r4&&((decide (p1.1 < 0))||(decide ((((a0.getD p1.2.toNat default).Zh).ZE) > (((a0.getD p1.1.toNat default).Zh).ZE)))) then (M.Vg p1 p1.2) else (M.Vg p1 p1.1)))) else (some (.inr p1.1))
noncomputable def M.WZ (a0:List Xx) (a1:Int):Option Int :=
 (loopM (M.WO a0 a1) ((-1),0)).bind fun y5=>some y5
noncomputable def M.UV :Option Bool :=
 (M.Gm (⟨([(⟨(⟨#[97]⟩:ByteArray),0,([(⟨(⟨#[101,48]⟩:ByteArray),167772161,24,0,false,false,0,0,false,(⟨#[]⟩:ByteArray),(⟨#[]⟩:ByteArray),0⟩:ZA)]:List ZA),([]:List Z1),([]:List Yt),([]:List U6),([]:List QF),([(⟨(⟨0,0⟩:ZL),167772169,(⟨#[]⟩:ByteArray),false,1,0⟩:X8)]:List X8),(⟨false,0,([]:List V9),([]:List QB)⟩:WB),(⟨false,0,(⟨#[]⟩:ByteArray),(⟨#[]⟩:ByteArray),([]:List QB)⟩:Qi),(⟨false,0,0,([]:List VB),([]:List ZL),([]:List Wa),([]:List Wb),([]:List QB)⟩:XO)⟩:Zi)]:List Zi)⟩:ZI) ([]:List Int)).bind fun r1=>bif r1.2 != 0 then (some false) else ((M.W5 r1.1 ([(⟨(⟨0,0⟩:ZL),2,0,1,0,0,0,0,([]:List Int),0,167772169,([]:List ZF),false⟩:ZM),(⟨(⟨167772160,24⟩:ZL),1,0,0,0,0,0,0,([]:List Int),0,0,([(⟨0,0⟩:ZF)]:List ZF),false⟩:ZM)]:List ZM) 0).bind fun r2=>(gc ((((r2.length:Int)==2)&&((((r2.getD (0:Int).toNat default).ZQ).length:Int)==1))&&((((((r2.getD (0:Int).toNat default).ZQ).getD (0:Int).toNat default).ZP)==0)&&((((((r2.getD (0:Int).toNat default).ZQ).getD (0:Int).toNat default).Zm)==167772169)&&true))) (M.WZ r2 5)).bind fun r3=>(gc (((((r2.length:Int)==2)&&((((r2.getD (0:Int).toNat default).ZQ).length:Int)==1))&&((((((r2.getD (0:Int).toNat default).ZQ).getD (0:Int).toNat default).ZP)==0)&&((((((r2.getD (0:Int).toNat default).ZQ).getD (0:Int).toNat default).Zm)==167772169)&&true)))&&(r3==0)) (M.WZ r2 167772165)).bind fun r4=>gd [guardB ((r2.length:Int)==2) (decide (0≤0)),guardB ((r2.length:Int)==2) (decide (0 < (r2.length:Int))),guardB (((r2.length:Int)==2)&&((((r2.getD (0:Int).toNat default).ZQ).length:Int)==1)) (decide (0≤0)),guardB (((r2.length:Int)==2)&&((((r2.getD (0:Int).toNat default).ZQ).length:Int)==1)) (decide (0 < (r2.length:Int))),guardB (((r2.length:Int)==2)&&((((r2.getD (0:Int).toNat default).ZQ).length:Int)==1)) (decide (0≤0)),guardB (((r2.length:Int)==2)&&((((r2.getD (0:Int).toNat default).ZQ).length:Int)==1)) (decide (0 < (((r2.getD (0:Int).toNat default).ZQ).length:Int)))] (some ((((((r2.length:Int)==2)&&((((r2.getD (0:Int).toNat default).ZQ).length:Int)==1))&&((((((r2.getD (0:Int).toNat default).ZQ).getD (0:Int).toNat default).ZP)==0)&&((((((r2.getD (0:Int).toNat default).ZQ).getD (0:Int).toNat default).Zm)==167772169)&&true)))&&(r3==0))&&(r4==1))))
noncomputable def M.Wh (a2:List ZM) (r1:XL × Bool) (p3:Int) (p8:Int):Option (Int ⊕ (Unit ⊕ Bool)) :=
 bif decide (p8≤(a2.length:Int)) then ((M.JJ r1.1 a2 p3 p8).bind fun r10=>(M.Wm r1.1 a2 p3 p8).bind fun r11=>(M.RK r10 r11).bind fun r12=>bif !r12 then (some (.inr (.inr false))) else (some (.inl (wr .i64 (p8+1))))) else (some (.inr (.inl ())))
noncomputable def M.W0 (a0:ZI) (a2:List ZM) (r1:XL × Bool) (p3:Int):Option (Int ⊕ (Unit ⊕ Bool)) :=
 bif decide (p3 < (a0.Ze.length:Int)) then ((M.W5 r1.1 a2 p3).bind fun r5=>(M.KC r1.1 a2 p3).bind fun r6=>(M.Wg r5 r6).bind fun r7=>bif !r7 then (some (.inr (.inr false))) else ((loopM (M.Wh a2 r1 p3) (-1)).bind fun y13=>Sum.elim (fun _=>some (.inl (wr .i64 (p3+1)))) (fun y15=>some (.inr (.inr y15))) y13)) else (some (.inr (.inl ())))
noncomputable def M.GG (a0:ZI) (a1:List Int) (a2:List ZM):Option Bool :=
 (M.GH a0 a1).bind fun r1=>(gc (!((!r1.2)||(decide ((a2.length:Int) > 20)))) (M.Wt a2 0)).bind fun r2=>bif ((!r1.2)||(decide ((a2.length:Int) > 20)))||(!r2) then (some true) else ((loopM (M.W0 a0 a2 r1) 0).bind fun y16=>Sum.elim (fun _=>(M.UV).bind fun r19=>some r19) (fun y18=>some y18) y16)
end Nv
