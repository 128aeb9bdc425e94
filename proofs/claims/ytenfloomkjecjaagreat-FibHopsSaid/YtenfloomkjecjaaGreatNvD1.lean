/- The mirrors: what each function of the given program computes, in plain terms. -/
import Derived.Test.YtenfloomkjecjaaGreatNvLibB
import Derived.Test.YtenfloomkjecjaaGreatNvLibD
import Derived.Test.YtenfloomkjecjaaGreatNvLibC
set_option maxRecDepth 100000
namespace Nv
open Go
structure ZA where
 XB : ByteArray
 Zn : Int
 ZL : Int
 XH : Int
 Jp : Bool
 Yw : Bool
 WI : Int
 Zc2 : Int
 YC : Bool
 Ww : ByteArray
 Qr : ByteArray
 ZaF : Int
 deriving Inhabited
def Zj (x : ZA) : List D := [.str x.XB,.int .u32 x.Zn,.int .i64 x.ZL,.int .i64 x.XH,.bool x.Jp,.bool x.Yw,.int .i64 x.WI,.int .i64 x.Zc2,.bool x.YC,.str x.Ww,.str x.Qr,.int .i64 x.ZaF]
structure ZM where
 Zn : Int
 ZL : Int
 deriving Inhabited
def Xf (x : ZM) : List D := [.int .u32 x.Zn,.int .i64 x.ZL]
structure UY where
 Zc3 : Bool
 Zl : ZM
 Zj8 : Int
 Zj9 : Int
 deriving Inhabited
def K0 (x : UY) : List D := [.bool x.Zc3,.int .u32 x.Zl.Zn,.int .i64 x.Zl.ZL,.int .i64 x.Zj8,.int .i64 x.Zj9]
structure ZW where
 XB : ByteArray
 YX : List UY
 deriving Inhabited
def Zx (x : ZW) : List D := [.str x.XB,sL 5 K0 x.YX]
structure Zbu where
 Zc3 : Bool
 VD : ByteArray
 UA : Int
 KA : Int
 Zc4 : Int
 ZaG : Int
 ZaH : Int
 deriving Inhabited
def ZgK (x : Zbu) : List D := [.bool x.Zc3,.str x.VD,.int .i64 x.UA,.int .i64 x.KA,.int .i64 x.Zc4,.int .i64 x.ZaG,.int .i64 x.ZaH]
structure Yl where
 XB : ByteArray
 X5 : List Zbu
 deriving Inhabited
def ZS (x : Yl) : List D := [.str x.XB,sL 7 ZgK x.X5]
structure Zbv where
 Zn : Int
 Kl : Int
 deriving Inhabited
def Zih (x : Zbv) : List D := [.int .u32 x.Zn,.int .u32 x.Kl]
structure Wn where
 Rg : Int
 fHi : Int
 deriving Inhabited
def RF (x : Wn) : List D := [.int .i64 x.Rg,.int .i64 x.fHi]
structure ZfJ where
 Zc3 : Bool
 X1 : Int
 Zch : Zbv
 Zci : Zbv
 U4 : Wn
 U5 : Wn
 deriving Inhabited
def Zhg (x : ZfJ) : List D := [.bool x.Zc3,.int .i64 x.X1,.int .u32 x.Zch.Zn,.int .u32 x.Zch.Kl,.int .u32 x.Zci.Zn,.int .u32 x.Zci.Kl,.int .i64 x.U4.Rg,.int .i64 x.U4.fHi,.int .i64 x.U5.Rg,.int .i64 x.U5.fHi]
structure US where
 XB : ByteArray
 YX : List ZfJ
 deriving Inhabited
def YL (x : US) : List D := [.str x.XB,sL 10 Zhg x.YX]
structure Qx where
 Ua : Int
 J5 : Int
 QY : Int
 X1 : Int
 Vp : Int
 JN : Int
 VD : ByteArray
 Rg : Int
 fHi : Int
 deriving Inhabited
def ZX (x : Qx) : List D := [.int .i64 x.Ua,.int .u32 x.J5,.int .u32 x.QY,.int .i64 x.X1,.int .i64 x.Vp,.int .i64 x.JN,.str x.VD,.int .u32 x.Rg,.int .u32 x.fHi]
structure X2 where
 Zl : ZM
 QI : Int
 ZH : ByteArray
 Z1 : Bool
 Z2 : Int
 UA : Int
 deriving Inhabited
def ZO (x : X2) : List D := [.int .u32 x.Zl.Zn,.int .i64 x.Zl.ZL,.int .u32 x.QI,.str x.ZH,.bool x.Z1,.int .i64 x.Z2,.int .i64 x.UA]
structure VY where
 WI : Int
 Zl : ZM
 deriving Inhabited
def XE (x : VY) : List D := [.int .i64 x.WI,.int .u32 x.Zl.Zn,.int .i64 x.Zl.ZL]
structure Qt where
 WR : Int
 Qc : Int
 UA : Int
 ZdN : ByteArray
 Zeq : Int
 deriving Inhabited
def ZB (x : Qt) : List D := [.int .i64 x.WR,.int .i64 x.Qc,.int .i64 x.UA,.str x.ZdN,.int .i64 x.Zeq]
structure Wo where
 We : Bool
 Z2 : Int
 Z4 : List VY
 Zu : List Qt
 deriving Inhabited
def Zc5 (x : Wo) : List D := [.bool x.We,.int .i64 x.Z2,sL 3 XE x.Z4,sL 5 ZB x.Zu]
structure Y9 where
 We : Bool
 Z2 : Int
 Ww : ByteArray
 Qr : ByteArray
 Zu : List Qt
 deriving Inhabited
def Zc6 (x : Y9) : List D := [.bool x.We,.int .i64 x.Z2,.str x.Ww,.str x.Qr,sL 5 ZB x.Zu]
structure Vq where
 Zn : Int
 Kq : Int
 Ww : ByteArray
 Qr : ByteArray
 deriving Inhabited
def XQ (x : Vq) : List D := [.int .u32 x.Zn,.int .i64 x.Kq,.str x.Ww,.str x.Qr]
structure VZ where
 Zl : ZM
 Znq : Bool
 deriving Inhabited
def XF (x : VZ) : List D := [.int .u32 x.Zl.Zn,.int .i64 x.Zl.ZL,.bool x.Znq]
structure V0 where
 Zl : ZM
 fIf : ZM
 ZmE : Bool
 deriving Inhabited
def Xy (x : V0) : List D := [.int .u32 x.Zl.Zn,.int .i64 x.Zl.ZL,.int .u32 x.fIf.Zn,.int .i64 x.fIf.ZL,.bool x.ZmE]
structure XI where
 We : Bool
 XZ : Int
 X0 : Int
 Zo : List Vq
 ZT : List ZM
 ZC : List VZ
 Zv : List V0
 Zu : List Qt
 deriving Inhabited
def G5 (x : XI) : List D := [.bool x.We,.int .i64 x.XZ,.int .i64 x.X0,sL 4 XQ x.Zo,sL 2 Xf x.ZT,sL 3 XF x.ZC,sL 5 Xy x.Zv,sL 5 ZB x.Zu]
structure Zh where
 XB : ByteArray
 Kq : Int
 Zc : List ZA
 YM : List ZW
 XJ : List Yl
 YW : List US
 Xc : List Qx
 Zp : List X2
 Yw : Wo
 YC : Y9
 Xv : XI
 deriving Inhabited
def Zs (x : Zh) : List D := [.str x.XB,.int .i64 x.Kq,sL 12 Zj x.Zc,sL 2 Zx x.YM,sL 2 ZS x.XJ,sL 2 YL x.YW,sL 9 ZX x.Xc,sL 7 ZO x.Zp,.bool x.Yw.We,.int .i64 x.Yw.Z2,sL 3 XE x.Yw.Z4,sL 5 ZB x.Yw.Zu,.bool x.YC.We,.int .i64 x.YC.Z2,.str x.YC.Ww,.str x.YC.Qr,sL 5 ZB x.YC.Zu,.bool x.Xv.We,.int .i64 x.Xv.XZ,.int .i64 x.Xv.X0,sL 4 XQ x.Xv.Zo,sL 2 Xf x.Xv.ZT,sL 3 XF x.Xv.ZC,sL 5 Xy x.Xv.Zv,sL 5 ZB x.Xv.Zu]
structure ZG where
 Ze : List Zh
 deriving Inhabited
def X6 (x : ZG) : List D := [sL 25 Zs x.Ze]
structure ZY where
 ZH : Int
 Zn : Int
 deriving Inhabited
def XL (x : ZY) : List D := [.int .i64 x.ZH,.int .u32 x.Zn]
structure Z3 where
 Zl : ZM
 X1 : Int
 Yi : Int
 Z2 : Int
 Qc : Int
 RG : Int
 UA : Int
 ZfK : Int
 WW : List Int
 WR : Int
 QI : Int
 ZU : List ZY
 Z1 : Bool
 deriving Inhabited
def Yn (x : Z3) : List D := [.int .u32 x.Zl.Zn,.int .i64 x.Zl.ZL,.int .i64 x.X1,.int .i64 x.Yi,.int .i64 x.Z2,.int .i64 x.Qc,.int .i64 x.RG,.int .i64 x.UA,.int .i64 x.ZfK,sL 1 (ci .i64) x.WW,.int .u32 x.WR,.int .u32 x.QI,sL 2 XL x.ZU,.bool x.Z1]
structure Vz where
 UB : Int
 ZH : Int
 deriving Inhabited
def Xm (x : Vz) : List D := [.int .i64 x.UB,.int .i64 x.ZH]
structure Zi where
 Zl : ZM
 XH : Int
 ZR : List Vz
 deriving Inhabited
def ZV (x : Zi) : List D := [.int .u32 x.Zl.Zn,.int .i64 x.Zl.ZL,.int .i64 x.XH,sL 2 Xm x.ZR]
structure JO where
 Xa : List Zi
 JP : List Int
 deriving Inhabited
def KT (x : JO) : List D := [sL 4 ZV x.Xa,sL 1 (ci .i64) x.JP]
structure XU where
 Zbx : ZG
 X9 : JO
 Jp : List Int
 deriving Inhabited
def Ys (x : XU) : List D := [sL 25 Zs x.Zbx.Ze,sL 4 ZV x.X9.Xa,sL 1 (ci .i64) x.X9.JP,sL 1 (ci .i64) x.Jp]
structure YJ where
 Zl : ZM
 ZU : List ZY
 Z1 : Bool
 deriving Inhabited
def VE (x : YJ) : List D := [.int .u32 x.Zl.Zn,.int .i64 x.Zl.ZL,sL 2 XL x.ZU,.bool x.Z1]
structure Z9 where
 Zbw : ZM
 ZlC : Int
 deriving Inhabited
def Z5 (x : Z9) : List D := [.int .u32 x.Zbw.Zn,.int .i64 x.Zbw.ZL,.int .i64 x.ZlC]
def hdDom (x : Zi) : List D := [.int .u32 x.Zl.Zn,.int .i64 x.Zl.ZL,.int .i64 x.XH]
def topoKeyEq (a b : Z9) : Bool := (((a.Zbw.Zn == b.Zbw.Zn) && ((a.Zbw.ZL == b.Zbw.ZL) && true)) && ((a.ZlC == b.ZlC) && true))
noncomputable def M.V7 (a0 : Zh) (p1 : Int) : Option (Int ⊕ (Unit ⊕ Bool)) :=
 bif decide (p1 < (a0.YM.length : Int)) then (gd [decide (0 ≤ p1),decide (p1 < (a0.YM.length : Int))] (bif decide ((((a0.YM.getD p1.toNat default).YX).length : Int) > 20) then (some (.inr (.inr false))) else (some (.inl (wr .i64 (p1 + 1)))))) else (some (.inr (.inl ())))
noncomputable def M.V8 (a0 : Zh) (p6 : Int) : Option (Int ⊕ (Unit ⊕ Bool)) :=
 bif decide (p6 < (a0.XJ.length : Int)) then (gd [decide (0 ≤ p6),decide (p6 < (a0.XJ.length : Int))] (bif decide ((((a0.XJ.getD p6.toNat default).X5).length : Int) > 12) then (some (.inr (.inr false))) else (some (.inl (wr .i64 (p6 + 1)))))) else (some (.inr (.inl ())))
noncomputable def M.V9 (a0 : Zh) (p11 : Int) : Option (Int ⊕ (Unit ⊕ Bool)) :=
 bif decide (p11 < (a0.YW.length : Int)) then (gd [decide (0 ≤ p11),decide (p11 < (a0.YW.length : Int))] (bif decide ((((a0.YW.getD p11.toNat default).YX).length : Int) > 20) then (some (.inr (.inr false))) else (some (.inl (wr .i64 (p11 + 1)))))) else (some (.inr (.inl ())))
noncomputable def M.V3 (a0 : Zh) : Option Bool :=
 bif (((((((((((((decide ((a0.Zc.length : Int) > 12)) || (decide ((a0.YM.length : Int) > 12))) || (decide ((a0.XJ.length : Int) > 12))) || (decide ((a0.YW.length : Int) > 12))) || (decide ((a0.Xc.length : Int) > 12))) || (decide ((a0.Zp.length : Int) > 20))) || (decide ((a0.Yw.Z4.length : Int) > 8))) || (decide ((a0.Yw.Zu.length : Int) > 8))) || (decide ((a0.YC.Zu.length : Int) > 8))) || (decide ((a0.Xv.Zu.length : Int) > 8))) || (decide ((a0.Xv.Zo.length : Int) > 12))) || (decide ((a0.Xv.ZT.length : Int) > 12))) || (decide ((a0.Xv.ZC.length : Int) > 12))) || (decide ((a0.Xv.Zv.length : Int) > 12)) then (some false) else ((loopM (M.V7 a0) 0).bind fun y3 => Sum.elim (fun _ => (loopM (M.V8 a0) 0).bind fun y8 => Sum.elim (fun _ => (loopM (M.V9 a0) 0).bind fun y13 => Sum.elim (fun _ => some true) (fun y15 => some y15) y13) (fun y10 => some y10) y8) (fun y5 => some y5) y3)
noncomputable def M.QJ (a0 : ZG) (p1 : Int) : Option (Int ⊕ (Unit ⊕ Bool)) :=
 bif decide (p1 < (a0.Ze.length : Int)) then ((M.V3 (a0.Ze.getD p1.toNat default)).bind fun r3 => gd [decide (0 ≤ p1),decide (p1 < (a0.Ze.length : Int))] (bif !r3 then (some (.inr (.inr false))) else (some (.inl (wr .i64 (p1 + 1)))))) else (some (.inr (.inl ())))
noncomputable def M.Vr (a0 : ZG) : Option Bool :=
 bif decide ((a0.Ze.length : Int) > 9) then (some false) else ((loopM (M.QJ a0) 0).bind fun y4 => Sum.elim (fun _ => some true) (fun y6 => some y6) y4)
noncomputable def M.Wf (a0 : Int) : Option Bool :=
 some (((decide (a0 ≥ 97)) && (decide (a0 ≤ 122))) || ((decide (a0 ≥ 65)) && (decide (a0 ≤ 90))))
noncomputable def M.Wx (a0 : ByteArray) (p2 : Int) : Option (Int ⊕ (Unit ⊕ Bool)) :=
 bif decide (p2 < (a0.size : Int)) then (gd [decide (0 ≤ p2),decide (p2 < (a0.size : Int))] ((M.Wf (byteAt a0 p2)).bind fun r4 => bif (((((!r4) && (!((decide ((byteAt a0 p2) ≥ 48)) && (decide ((byteAt a0 p2) ≤ 57))))) && ((byteAt a0 p2) != 45)) && ((byteAt a0 p2) != 95)) && ((byteAt a0 p2) != 47)) && ((byteAt a0 p2) != 46) then (some (.inr (.inr false))) else (some (.inl (wr .i64 (p2 + 1)))))) else (some (.inr (.inl ())))
noncomputable def M.Jq (a0 : ByteArray) : Option Bool :=
 (gc (!((decide ((a0.size : Int) < 1)) || (decide ((a0.size : Int) > 15)))) (M.Wf (byteAt a0 0))).bind fun r1 => gd [guardB (!((decide ((a0.size : Int) < 1)) || (decide ((a0.size : Int) > 15)))) (decide (0 ≤ 0)),guardB (!((decide ((a0.size : Int) < 1)) || (decide ((a0.size : Int) > 15)))) (decide (0 < (a0.size : Int)))] (bif ((decide ((a0.size : Int) < 1)) || (decide ((a0.size : Int) > 15))) || (!r1) then (some false) else ((loopM (M.Wx a0) 1).bind fun y5 => Sum.elim (fun _ => some true) (fun y7 => some y7) y5))
noncomputable def M.ZN (a0 : Int) (a1 : Int) (a2 : Int) : Option Bool :=
 some ((decide (a1 ≤ a0)) && (decide (a0 ≤ a2)))
noncomputable def M.GJ (p1 : Int × Int) (p3 : Int) : Option ((Int × Int) ⊕ Int) :=
 some (.inl (p3,wr .i64 (p1.2 + 1)))
noncomputable def M.UC (a0 : Int) (p1 : Int × Int) : Option ((Int × Int) ⊕ Int) :=
 bif decide (p1.2 < 32) then (bif decide (p1.2 < a0) then (gd [decide (0 ≤ (wr .u64 (wr .i64 (31 - p1.2))))] (M.GJ p1 (bitD .or .u32 p1.1 (wr .u32 (1 * 2 ^ min (wr .u64 (wr .i64 (31 - p1.2))).toNat 32))))) else (M.GJ p1 p1.1)) else (some (.inr p1.1))
noncomputable def M.JQ (a0 : Int) : Option Int :=
 (loopM (M.UC a0) (0,0)).bind fun y4 => some y4
noncomputable def M.QT (a0 : Int) (a1 : Int) : Option ZM :=
 (M.JQ (if 0 > (if 32 < a1 then 32 else a1) then 0 else (if 32 < a1 then 32 else a1))).bind fun r1 => some (⟨bitD .and .u32 a0 r1,if 0 > (if 32 < a1 then 32 else a1) then 0 else (if 32 < a1 then 32 else a1)⟩ : ZM)
noncomputable def M.VC (a0 : ZM) (a1 : Int) : Option Bool :=
 (M.JQ a0.ZL).bind fun r1 => some ((bitD .and .u32 a1 r1) == a0.Zn)
noncomputable def M.Vt (a0 : ZM) (a1 : ZM) : Option Bool :=
 (gc (decide (a0.ZL ≤ a1.ZL)) (M.VC a0 a1.Zn)).bind fun r1 => some ((decide (a0.ZL ≤ a1.ZL)) && r1)
noncomputable def M.QN (a0 : ZM) (a1 : ZM) : Option Bool :=
 (M.Vt a0 a1).bind fun r1 => (gc (!r1) (M.Vt a1 a0)).bind fun r2 => some (r1 || r2)
noncomputable def M.YY (a0 : List ZA) (p1 : Int) (p4 : Int) : Option (Int ⊕ (Unit ⊕ Int)) :=
 bif decide (p4 < p1) then (gd [decide (0 ≤ p4),decide (p4 < (a0.length : Int))] (bif strEq ((a0.getD p4.toNat default).XB) ((a0.getD p1.toNat default).XB) then (some (.inr (.inr 4))) else (some (.inl (wr .i64 (p4 + 1)))))) else (some (.inr (.inl ())))
noncomputable def M.YD (a0 : List ZA) (p1 : Int) (p14 : Int) : Option (Int ⊕ (Unit ⊕ Int)) :=
 bif decide (p14 < p1) then ((gc ((((a0.getD p1.toNat default).ZL) != 0) && (((a0.getD p14.toNat default).ZL) != 0)) (M.QT ((a0.getD p1.toNat default).Zn) ((a0.getD p1.toNat default).ZL))).bind fun r16 => (gc ((((a0.getD p1.toNat default).ZL) != 0) && (((a0.getD p14.toNat default).ZL) != 0)) (M.QT ((a0.getD p14.toNat default).Zn) ((a0.getD p14.toNat default).ZL))).bind fun r17 => (gc ((((a0.getD p1.toNat default).ZL) != 0) && (((a0.getD p14.toNat default).ZL) != 0)) (M.QN r16 r17)).bind fun r18 => gd [guardB (((a0.getD p1.toNat default).ZL) != 0) (decide (0 ≤ p14)),guardB (((a0.getD p1.toNat default).ZL) != 0) (decide (p14 < (a0.length : Int))),guardB ((((a0.getD p1.toNat default).ZL) != 0) && (((a0.getD p14.toNat default).ZL) != 0)) (decide (0 ≤ p14)),guardB ((((a0.getD p1.toNat default).ZL) != 0) && (((a0.getD p14.toNat default).ZL) != 0)) (decide (p14 < (a0.length : Int))),guardB ((((a0.getD p1.toNat default).ZL) != 0) && (((a0.getD p14.toNat default).ZL) != 0)) (decide (0 ≤ p14)),guardB ((((a0.getD p1.toNat default).ZL) != 0) && (((a0.getD p14.toNat default).ZL) != 0)) (decide (p14 < (a0.length : Int)))] (bif ((((a0.getD p1.toNat default).ZL) != 0) && (((a0.getD p14.toNat default).ZL) != 0)) && r18 then (some (.inr (.inr 6))) else (some (.inl (wr .i64 (p14 + 1)))))) else (some (.inr (.inl ())))
noncomputable def M.YE (a0 : List ZA) (p1 : Int) : Option (Int ⊕ (Unit ⊕ Int)) :=
 bif decide (p1 < (a0.length : Int)) then (gd [decide (0 ≤ p1),decide (p1 < (a0.length : Int))] ((M.Jq ((a0.getD p1.toNat default).XB)).bind fun r3 => bif !r3 then (some (.inr (.inr 3))) else ((loopM (M.YY a0 p1) 0).bind fun y6 => Sum.elim (fun _ => (M.ZN ((a0.getD p1.toNat default).ZL) 0 32).bind fun r9 => (gc (!(!r9)) (M.ZN ((a0.getD p1.toNat default).XH) 0 4094)).bind fun r10 => (gc (!((!r9) || (!r10))) (M.ZN ((a0.getD p1.toNat default).ZaF) 0 2)).bind fun r11 => bif ((!r9) || (!r10)) || (!r11) then (some (.inr (.inr 1))) else (bif ((((a0.getD p1.toNat default).ZL) == 0) && (((((((((a0.getD p1.toNat default).Zn) != 0) || (((a0.getD p1.toNat default).XH) != 0)) || (((a0.getD p1.toNat default).ZaF) != 0)) || ((a0.getD p1.toNat default).Yw)) || ((a0.getD p1.toNat default).YC)) || (!strEq ((a0.getD p1.toNat default).Ww) (⟨#[]⟩ : ByteArray))) || (!strEq ((a0.getD p1.toNat default).Qr) (⟨#[]⟩ : ByteArray)))) || ((((a0.getD p1.toNat default).ZL) != 0) && (((a0.getD p1.toNat default).Zn) == 0)) then (some (.inr (.inr 1))) else ((gc ((a0.getD p1.toNat default).Yw) (M.ZN ((a0.getD p1.toNat default).WI) 0 255)).bind fun r12 => (gc (((a0.getD p1.toNat default).Yw) && !(!r12)) (M.ZN ((a0.getD p1.toNat default).Zc2) 1 65535)).bind fun r13 => bif (((a0.getD p1.toNat default).Yw) && ((!r12) || (!r13))) || ((!((a0.getD p1.toNat default).Yw)) && ((((a0.getD p1.toNat default).WI) != 0) || (((a0.getD p1.toNat default).Zc2) != 0))) then (some (.inr (.inr 1))) else ((loopM (M.YD a0 p1) 0).bind fun y19 => Sum.elim (fun _ => some (.inl (wr .i64 (p1 + 1)))) (fun y21 => some (.inr (.inr y21))) y19)))) (fun y8 => some (.inr (.inr y8))) y6))) else (some (.inr (.inl ())))
noncomputable def M.Yo (a0 : List ZA) : Option Int :=
 bif decide ((a0.length : Int) > 8) then (some 7) else ((loopM (M.YE a0) 0).bind fun y22 => Sum.elim (fun _ => some 0) (fun y24 => some y24) y22)
noncomputable def M.YZ (a0 : ZM) : Option Bool :=
 (gc ((decide (a0.ZL ≥ 0)) && (decide (a0.ZL ≤ 32))) (M.JQ a0.ZL)).bind fun r1 => some (((decide (a0.ZL ≥ 0)) && (decide (a0.ZL ≤ 32))) && ((bitD .andNot .u32 a0.Zn r1) == 0))
noncomputable def M.Qd (a0 : UY) : Option Bool :=
 (M.YZ a0.Zl).bind fun r1 => some (((r1 && (decide (a0.Zl.ZL ≤ a0.Zj8))) && (decide (a0.Zj8 ≤ a0.Zj9))) && (decide (a0.Zj9 ≤ 32)))
noncomputable def M.Qy (a0 : List ZW) (p1 : Int) (p4 : Int) : Option (Int ⊕ (Unit ⊕ Int)) :=
 bif decide (p4 < p1) then (gd [decide (0 ≤ p4),decide (p4 < (a0.length : Int)),decide (0 ≤ p1),decide (p1 < (a0.length : Int))] (bif strEq ((a0.getD p4.toNat default).XB) ((a0.getD p1.toNat default).XB) then (some (.inr (.inr 4))) else (some (.inl (wr .i64 (p4 + 1)))))) else (some (.inr (.inl ())))
noncomputable def M.Qz (a0 : List ZW) (p1 : Int) (p9 : Int) : Option (Int ⊕ (Unit ⊕ Int)) :=
 gd [decide (0 ≤ p1),decide (p1 < (a0.length : Int))] (bif decide (p9 < (((a0.getD p1.toNat default).YX).length : Int)) then ((M.Qd (((a0.getD p1.toNat default).YX).getD p9.toNat default)).bind fun r11 => gd [decide (0 ≤ p1),decide (p1 < (a0.length : Int)),decide (0 ≤ p9),decide (p9 < (((a0.getD p1.toNat default).YX).length : Int))] (bif !r11 then (some (.inr (.inr 1))) else (some (.inl (wr .i64 (p9 + 1)))))) else (some (.inr (.inl ()))))
noncomputable def M.QA (a0 : List ZW) (p1 : Int) : Option (Int ⊕ (Unit ⊕ Int)) :=
 bif decide (p1 < (a0.length : Int)) then ((M.Jq ((a0.getD p1.toNat default).XB)).bind fun r3 => gd [decide (0 ≤ p1),decide (p1 < (a0.length : Int))] (bif !r3 then (some (.inr (.inr 3))) else ((loopM (M.Qy a0 p1) 0).bind fun y6 => Sum.elim (fun _ => gd [decide (0 ≤ p1),decide (p1 < (a0.length : Int))] (bif (((a0.getD p1.toNat default).YX).length : Int) == 0 then (some (.inr (.inr 1))) else (gd [decide (0 ≤ p1),decide (p1 < (a0.length : Int))] (bif decide ((((a0.getD p1.toNat default).YX).length : Int) > 16) then (some (.inr (.inr 7))) else ((loopM (M.Qz a0 p1) 0).bind fun y12 => Sum.elim (fun _ => some (.inl (wr .i64 (p1 + 1)))) (fun y14 => some (.inr (.inr y14))) y12))))) (fun y8 => some (.inr (.inr y8))) y6))) else (some (.inr (.inl ())))
noncomputable def M.QL (a0 : List ZW) : Option Int :=
 bif decide ((a0.length : Int) > 8) then (some 7) else ((loopM (M.QA a0) 0).bind fun y15 => Sum.elim (fun _ => some 0) (fun y17 => some y17) y15)
noncomputable def M.QU (a0 : Zh) (a1 : ByteArray) (p1 : Int) : Option (Int ⊕ (Unit ⊕ Int)) :=
 bif decide (p1 < (a0.YM.length : Int)) then (gd [decide (0 ≤ p1),decide (p1 < (a0.YM.length : Int))] (bif strEq ((a0.YM.getD p1.toNat default).XB) a1 then (some (.inr (.inr p1))) else (some (.inl (wr .i64 (p1 + 1)))))) else (some (.inr (.inl ())))
noncomputable def M.Qa (a0 : Zh) (a1 : ByteArray) : Option Int :=
 (loopM (M.QU a0 a1) 0).bind fun y3 => Sum.elim (fun _ => some (-1)) (fun y5 => some y5) y3
noncomputable def M.Jd (a0 : Zh) (p1 : Int) (p4 : Int) : Option (Int ⊕ (Unit ⊕ Int)) :=
 bif decide (p4 < p1) then (gd [decide (0 ≤ p4),decide (p4 < (a0.XJ.length : Int)),decide (0 ≤ p1),decide (p1 < (a0.XJ.length : Int))] (bif strEq ((a0.XJ.getD p4.toNat default).XB) ((a0.XJ.getD p1.toNat default).XB) then (some (.inr (.inr 4))) else (some (.inl (wr .i64 (p4 + 1)))))) else (some (.inr (.inl ())))
noncomputable def M.Je (a0 : Zh) (p1 : Int) (p9 : Int) : Option (Int ⊕ (Unit ⊕ Int)) :=
 gd [decide (0 ≤ p1),decide (p1 < (a0.XJ.length : Int))] (bif decide (p9 < (((a0.XJ.getD p1.toNat default).X5).length : Int)) then (gd [decide (0 ≤ p1),decide (p1 < (a0.XJ.length : Int)),decide (0 ≤ p9),decide (p9 < (((a0.XJ.getD p1.toNat default).X5).length : Int))] ((gc (!strEq ((((a0.XJ.getD p1.toNat default).X5).getD p9.toNat default).VD) (⟨#[]⟩ : ByteArray)) (M.Qa a0 ((((a0.XJ.getD p1.toNat default).X5).getD p9.toNat default).VD))).bind fun r11 => bif (!strEq ((((a0.XJ.getD p1.toNat default).X5).getD p9.toNat default).VD) (⟨#[]⟩ : ByteArray)) && (decide (r11 < 0)) then (some (.inr (.inr 5))) else ((M.ZN ((((a0.XJ.getD p1.toNat default).X5).getD p9.toNat default).UA) (-1) 65535).bind fun r12 => (gc (!(!r12)) (M.ZN ((((a0.XJ.getD p1.toNat default).X5).getD p9.toNat default).Zc4) (-1) 65535)).bind fun r13 => (gc (!((!r12) || (!r13))) (M.ZN ((((a0.XJ.getD p1.toNat default).X5).getD p9.toNat default).KA) (-1) 16777215)).bind fun r14 => (gc (!(((!r12) || (!r13)) || (!r14))) (M.ZN ((((a0.XJ.getD p1.toNat default).X5).getD p9.toNat default).ZaG) (-1) 1000000)).bind fun r15 => (gc (!((((!r12) || (!r13)) || (!r14)) || (!r15))) (M.ZN ((((a0.XJ.getD p1.toNat default).X5).getD p9.toNat default).ZaH) 0 8)).bind fun r16 => bif ((((!r12) || (!r13)) || (!r14)) || (!r15)) || (!r16) then (some (.inr (.inr 1))) else (some (.inl (wr .i64 (p9 + 1))))))) else (some (.inr (.inl ()))))
noncomputable def M.Jf (a0 : Zh) (p1 : Int) : Option (Int ⊕ (Unit ⊕ Int)) :=
 bif decide (p1 < (a0.XJ.length : Int)) then ((M.Jq ((a0.XJ.getD p1.toNat default).XB)).bind fun r3 => gd [decide (0 ≤ p1),decide (p1 < (a0.XJ.length : Int))] (bif !r3 then (some (.inr (.inr 3))) else ((loopM (M.Jd a0 p1) 0).bind fun y6 => Sum.elim (fun _ => gd [decide (0 ≤ p1),decide (p1 < (a0.XJ.length : Int))] (bif (((a0.XJ.getD p1.toNat default).X5).length : Int) == 0 then (some (.inr (.inr 1))) else (gd [decide (0 ≤ p1),decide (p1 < (a0.XJ.length : Int))] (bif decide ((((a0.XJ.getD p1.toNat default).X5).length : Int) > 8) then (some (.inr (.inr 7))) else ((loopM (M.Je a0 p1) 0).bind fun y17 => Sum.elim (fun _ => some (.inl (wr .i64 (p1 + 1)))) (fun y19 => some (.inr (.inr y19))) y17))))) (fun y8 => some (.inr (.inr y8))) y6))) else (some (.inr (.inl ())))
noncomputable def M.Js (a0 : Zh) : Option Int :=
 bif decide ((a0.XJ.length : Int) > 8) then (some 7) else ((loopM (M.Jf a0) 0).bind fun y20 => Sum.elim (fun _ => some 0) (fun y22 => some y22) y20)
noncomputable def M.WJ (a0 : Wn) : Option Bool :=
 some (((decide (0 ≤ a0.Rg)) && (decide (a0.Rg ≤ a0.fHi))) && (decide (a0.fHi ≤ 65535)))
noncomputable def M.UZ (a0 : Wn) : Option Bool :=
 some ((a0.Rg == 0) && ((a0.fHi == 65535) && true))
noncomputable def M.VG (a0 : ZfJ) : Option Bool :=
 (M.ZN a0.X1 (-1) 255).bind fun r1 => (gc (!(((!r1) || ((bitD .and .u32 a0.Zch.Zn a0.Zch.Kl) != 0)) || ((bitD .and .u32 a0.Zci.Zn a0.Zci.Kl) != 0))) (M.WJ a0.U4)).bind fun r2 => (gc (!((((!r1) || ((bitD .and .u32 a0.Zch.Zn a0.Zch.Kl) != 0)) || ((bitD .and .u32 a0.Zci.Zn a0.Zci.Kl) != 0)) || (!r2))) (M.WJ a0.U5)).bind fun r3 => bif ((((!r1) || ((bitD .and .u32 a0.Zch.Zn a0.Zch.Kl) != 0)) || ((bitD .and .u32 a0.Zci.Zn a0.Zci.Kl) != 0)) || (!r2)) || (!r3) then (some false) else ((gc (!((a0.X1 == 6) || (a0.X1 == 17))) (M.UZ a0.U4)).bind fun r4 => (gc ((!((a0.X1 == 6) || (a0.X1 == 17))) && r4) (M.UZ a0.U5)).bind fun r5 => some (((a0.X1 == 6) || (a0.X1 == 17)) || (r4 && r5)))
noncomputable def M.QB (a0 : List US) (p1 : Int) (p4 : Int) : Option (Int ⊕ (Unit ⊕ Int)) :=
 bif decide (p4 < p1) then (gd [decide (0 ≤ p4),decide (p4 < (a0.length : Int)),decide (0 ≤ p1),decide (p1 < (a0.length : Int))] (bif strEq ((a0.getD p4.toNat default).XB) ((a0.getD p1.toNat default).XB) then (some (.inr (.inr 4))) else (some (.inl (wr .i64 (p4 + 1)))))) else (some (.inr (.inl ())))
noncomputable def M.QC (a0 : List US) (p1 : Int) (p9 : Int) : Option (Int ⊕ (Unit ⊕ Int)) :=
 gd [decide (0 ≤ p1),decide (p1 < (a0.length : Int))] (bif decide (p9 < (((a0.getD p1.toNat default).YX).length : Int)) then ((M.VG (((a0.getD p1.toNat default).YX).getD p9.toNat default)).bind fun r11 => gd [decide (0 ≤ p1),decide (p1 < (a0.length : Int)),decide (0 ≤ p9),decide (p9 < (((a0.getD p1.toNat default).YX).length : Int))] (bif !r11 then (some (.inr (.inr 1))) else (some (.inl (wr .i64 (p9 + 1)))))) else (some (.inr (.inl ()))))
noncomputable def M.QD (a0 : List US) (p1 : Int) : Option (Int ⊕ (Unit ⊕ Int)) :=
 bif decide (p1 < (a0.length : Int)) then ((M.Jq ((a0.getD p1.toNat default).XB)).bind fun r3 => gd [decide (0 ≤ p1),decide (p1 < (a0.length : Int))] (bif !r3 then (some (.inr (.inr 3))) else ((loopM (M.QB a0 p1) 0).bind fun y6 => Sum.elim (fun _ => gd [decide (0 ≤ p1),decide (p1 < (a0.length : Int))] (bif (((a0.getD p1.toNat default).YX).length : Int) == 0 then (some (.inr (.inr 1))) else (gd [decide (0 ≤ p1),decide (p1 < (a0.length : Int))] (bif decide ((((a0.getD p1.toNat default).YX).length : Int) > 16) then (some (.inr (.inr 7))) else ((loopM (M.QC a0 p1) 0).bind fun y12 => Sum.elim (fun _ => some (.inl (wr .i64 (p1 + 1)))) (fun y14 => some (.inr (.inr y14))) y12))))) (fun y8 => some (.inr (.inr y8))) y6))) else (some (.inr (.inl ())))
noncomputable def M.QM (a0 : List US) : Option Int :=
 bif decide ((a0.length : Int) > 8) then (some 7) else ((loopM (M.QD a0) 0).bind fun y15 => Sum.elim (fun _ => some 0) (fun y17 => some y17) y15)
noncomputable def M.WX (a0 : Zh) (a1 : ByteArray) (p1 : Int) : Option (Int ⊕ (Unit ⊕ Int)) :=
 bif decide (p1 < (a0.YW.length : Int)) then (gd [decide (0 ≤ p1),decide (p1 < (a0.YW.length : Int))] (bif strEq ((a0.YW.getD p1.toNat default).XB) a1 then (some (.inr (.inr p1))) else (some (.inl (wr .i64 (p1 + 1)))))) else (some (.inr (.inl ())))
noncomputable def M.Ui (a0 : Zh) (a1 : ByteArray) : Option Int :=
 (loopM (M.WX a0 a1) 0).bind fun y3 => Sum.elim (fun _ => some (-1)) (fun y5 => some y5) y3
noncomputable def M.XX (a0 : Zh) (p1 : Int) (p3 : Bool) : Option (Int ⊕ (Unit ⊕ Int)) :=
 bif !p3 then (some (.inr (.inr 1))) else ((gc (((a0.Xc.getD p1.toNat default).Ua) == 2) (M.Ui a0 ((a0.Xc.getD p1.toNat default).VD))).bind fun r4 => bif (((a0.Xc.getD p1.toNat default).Ua) == 2) && (decide (r4 < 0)) then (some (.inr (.inr 5))) else (some (.inl (wr .i64 (p1 + 1)))))
noncomputable def M.Qe (a0 : Zh) (p1 : Int) : Option (Int ⊕ (Unit ⊕ Int)) :=
 bif decide (p1 < (a0.Xc.length : Int)) then (gd [decide (0 ≤ p1),decide (p1 < (a0.Xc.length : Int))] (bif ((a0.Xc.getD p1.toNat default).Ua) == 1 then (M.XX a0 p1 (((((a0.Xc.getD p1.toNat default).J5) != 0) && (((a0.Xc.getD p1.toNat default).QY) != 0)) && ((((a0.Xc.getD p1.toNat default).Ua) == ((a0.Xc.getD p1.toNat default).Ua)) && ((((a0.Xc.getD p1.toNat default).J5) == ((a0.Xc.getD p1.toNat default).J5)) && ((((a0.Xc.getD p1.toNat default).QY) == ((a0.Xc.getD p1.toNat default).QY)) && ((((a0.Xc.getD p1.toNat default).X1) == 0) && ((((a0.Xc.getD p1.toNat default).Vp) == 0) && ((((a0.Xc.getD p1.toNat default).JN) == 0) && (strEq ((a0.Xc.getD p1.toNat default).VD) (⟨#[]⟩ : ByteArray) && ((((a0.Xc.getD p1.toNat default).Rg) == 0) && ((((a0.Xc.getD p1.toNat default).fHi) == 0) && true))))))))))) else (bif ((a0.Xc.getD p1.toNat default).Ua) == 2 then (M.XX a0 p1 ((((((a0.Xc.getD p1.toNat default).Rg) != 0) && (decide (((a0.Xc.getD p1.toNat default).Rg) ≤ ((a0.Xc.getD p1.toNat default).fHi)))) && (decide ((wr .u32 (((a0.Xc.getD p1.toNat default).fHi) - ((a0.Xc.getD p1.toNat default).Rg))) < 8))) && ((((a0.Xc.getD p1.toNat default).Ua) == ((a0.Xc.getD p1.toNat default).Ua)) && ((((a0.Xc.getD p1.toNat default).J5) == 0) && ((((a0.Xc.getD p1.toNat default).QY) == 0) && ((((a0.Xc.getD p1.toNat default).X1) == 0) && ((((a0.Xc.getD p1.toNat default).Vp) == 0) && ((((a0.Xc.getD p1.toNat default).JN) == 0) && (strEq ((a0.Xc.getD p1.toNat default).VD) ((a0.Xc.getD p1.toNat default).VD) && ((((a0.Xc.getD p1.toNat default).Rg) == ((a0.Xc.getD p1.toNat default).Rg)) && ((((a0.Xc.getD p1.toNat default).fHi) == ((a0.Xc.getD p1.toNat default).fHi)) && true))))))))))) else (bif ((a0.Xc.getD p1.toNat default).Ua) == 3 then ((gc (((((a0.Xc.getD p1.toNat default).J5) != 0) && (((a0.Xc.getD p1.toNat default).QY) != 0)) && ((((a0.Xc.getD p1.toNat default).X1) == 6) || (((a0.Xc.getD p1.toNat default).X1) == 17))) (M.ZN ((a0.Xc.getD p1.toNat default).Vp) 0 65535)).bind fun r5 => (gc ((((((a0.Xc.getD p1.toNat default).J5) != 0) && (((a0.Xc.getD p1.toNat default).QY) != 0)) && ((((a0.Xc.getD p1.toNat default).X1) == 6) || (((a0.Xc.getD p1.toNat default).X1) == 17))) && r5) (M.ZN ((a0.Xc.getD p1.toNat default).JN) 0 65535)).bind fun r6 => M.XX a0 p1 ((((((((((a0.Xc.getD p1.toNat default).J5) != 0) && (((a0.Xc.getD p1.toNat default).QY) != 0)) && ((((a0.Xc.getD p1.toNat default).X1) == 6) || (((a0.Xc.getD p1.toNat default).X1) == 17))) && r5) && r6) && (strEq ((a0.Xc.getD p1.toNat default).VD) (⟨#[]⟩ : ByteArray))) && (((a0.Xc.getD p1.toNat default).Rg) == 0)) && (((a0.Xc.getD p1.toNat default).fHi) == 0))) else (M.XX a0 p1 false))))) else (some (.inr (.inl ())))
noncomputable def M.Qf (a0 : Zh) : Option Int :=
 bif decide ((a0.Xc.length : Int) > 8) then (some 7) else ((loopM (M.Qe a0) 0).bind fun y7 => Sum.elim (fun _ => some 0) (fun y9 => some y9) y7)
noncomputable def M.J6 (a0 : Zh) (p1 : Int) : Option (Int ⊕ (Unit ⊕ Int)) :=
 bif decide (p1 < (a0.Zc.length : Int)) then (gd [decide (0 ≤ p1),decide (p1 < (a0.Zc.length : Int))] ((gc (!strEq ((a0.Zc.getD p1.toNat default).Ww) (⟨#[]⟩ : ByteArray)) (M.Ui a0 ((a0.Zc.getD p1.toNat default).Ww))).bind fun r3 => (gc ((!((!strEq ((a0.Zc.getD p1.toNat default).Ww) (⟨#[]⟩ : ByteArray)) && (decide (r3 < 0)))) && (!strEq ((a0.Zc.getD p1.toNat default).Qr) (⟨#[]⟩ : ByteArray))) (M.Ui a0 ((a0.Zc.getD p1.toNat default).Qr))).bind fun r4 => bif ((!strEq ((a0.Zc.getD p1.toNat default).Ww) (⟨#[]⟩ : ByteArray)) && (decide (r3 < 0))) || ((!strEq ((a0.Zc.getD p1.toNat default).Qr) (⟨#[]⟩ : ByteArray)) && (decide (r4 < 0))) then (some (.inr (.inr 5))) else (some (.inl (wr .i64 (p1 + 1)))))) else (some (.inr (.inl ())))
noncomputable def M.VH (a0 : Zh) : Option Int :=
 (loopM (M.J6 a0) 0).bind fun y5 => Sum.elim (fun _ => some 0) (fun y7 => some y7) y5
noncomputable def M.J7 (a0 : Zh) (a1 : Int) (p1 : Int) : Option (Int ⊕ (Unit ⊕ Int)) :=
 bif decide (p1 < (a0.Zc.length : Int)) then (gd [decide (0 ≤ p1),decide (p1 < (a0.Zc.length : Int)),guardB (((a0.Zc.getD p1.toNat default).ZL) != 0) (decide (0 ≤ p1)),guardB (((a0.Zc.getD p1.toNat default).ZL) != 0) (decide (p1 < (a0.Zc.length : Int)))] (bif (((a0.Zc.getD p1.toNat default).ZL) != 0) && (((a0.Zc.getD p1.toNat default).Zn) == a1) then (some (.inr (.inr p1))) else (some (.inl (wr .i64 (p1 + 1)))))) else (some (.inr (.inl ())))
noncomputable def M.J8 (a0 : Zh) (a1 : Int) : Option Int :=
 (loopM (M.J7 a0 a1) 0).bind fun y3 => Sum.elim (fun _ => some (-1)) (fun y5 => some y5) y3
noncomputable def M.QO (a0 : Zh) (a1 : ByteArray) (p1 : Int) : Option (Int ⊕ (Unit ⊕ Int)) :=
 bif decide (p1 < (a0.Zc.length : Int)) then (gd [decide (0 ≤ p1),decide (p1 < (a0.Zc.length : Int))] (bif strEq ((a0.Zc.getD p1.toNat default).XB) a1 then (some (.inr (.inr p1))) else (some (.inl (wr .i64 (p1 + 1)))))) else (some (.inr (.inl ())))
noncomputable def M.Jt (a0 : Zh) (a1 : ByteArray) : Option Int :=
 (loopM (M.QO a0 a1) 0).bind fun y3 => Sum.elim (fun _ => some (-1)) (fun y5 => some y5) y3
noncomputable def M.J9 (a0 : Zh) (p1 : Int) (p11 : Int) : Option (Int ⊕ (Unit ⊕ Int)) :=
 bif decide (p11 < p1) then (gd [decide (0 ≤ p11),decide (p11 < (a0.Zp.length : Int)),guardB (((((a0.Zp.getD p11.toNat default).Zl).Zn) == (((a0.Zp.getD p1.toNat default).Zl).Zn)) && (((((a0.Zp.getD p11.toNat default).Zl).ZL) == (((a0.Zp.getD p1.toNat default).Zl).ZL)) && true)) (decide (0 ≤ p11)),guardB (((((a0.Zp.getD p11.toNat default).Zl).Zn) == (((a0.Zp.getD p1.toNat default).Zl).Zn)) && (((((a0.Zp.getD p11.toNat default).Zl).ZL) == (((a0.Zp.getD p1.toNat default).Zl).ZL)) && true)) (decide (p11 < (a0.Zp.length : Int)))] (bif (((((a0.Zp.getD p11.toNat default).Zl).Zn) == (((a0.Zp.getD p1.toNat default).Zl).Zn)) && (((((a0.Zp.getD p11.toNat default).Zl).ZL) == (((a0.Zp.getD p1.toNat default).Zl).ZL)) && true)) && (((a0.Zp.getD p11.toNat default).Z2) == ((a0.Zp.getD p1.toNat default).Z2)) then (some (.inr (.inr 6))) else (some (.inl (wr .i64 (p11 + 1)))))) else (some (.inr (.inl ())))
noncomputable def M.QZ (a0 : Zh) (p1 : Int) (_p10 : Unit) : Option (Int ⊕ (Unit ⊕ Int)) :=
 (loopM (M.J9 a0 p1) 0).bind fun y13 => Sum.elim (fun _ => some (.inl (wr .i64 (p1 + 1)))) (fun y15 => some (.inr (.inr y15))) y13
noncomputable def M.Q0 (a0 : Zh) (p1 : Int) (p5 : Int) : Option (Int ⊕ (Unit ⊕ Int)) :=
 (M.YZ ((a0.Zp.getD p1.toNat default).Zl)).bind fun r6 => (gc ((!((!r6) || (p5 != 1))) && (((a0.Zp.getD p1.toNat default).QI) != 0)) (M.J8 a0 ((a0.Zp.getD p1.toNat default).QI))).bind fun r7 => (gc (!(((!r6) || (p5 != 1)) || ((((a0.Zp.getD p1.toNat default).QI) != 0) && (decide (r7 ≥ 0))))) (M.ZN ((a0.Zp.getD p1.toNat default).Z2) 1 255)).bind fun r8 => (gc (!((((!r6) || (p5 != 1)) || ((((a0.Zp.getD p1.toNat default).QI) != 0) && (decide (r7 ≥ 0)))) || (!r8))) (M.ZN ((a0.Zp.getD p1.toNat default).UA) 0 65535)).bind fun r9 => bif ((((!r6) || (p5 != 1)) || ((((a0.Zp.getD p1.toNat default).QI) != 0) && (decide (r7 ≥ 0)))) || (!r8)) || (!r9) then (some (.inr (.inr 1))) else (bif !strEq ((a0.Zp.getD p1.toNat default).ZH) (⟨#[]⟩ : ByteArray) then ((M.Jt a0 ((a0.Zp.getD p1.toNat default).ZH)).bind fun r16 => bif decide (r16 < 0) then (some (.inr (.inr 5))) else (gd [decide (0 ≤ r16),decide (r16 < (a0.Zc.length : Int))] (bif ((a0.Zc.getD r16.toNat default).ZL) == 0 then (some (.inr (.inr 1))) else (M.QZ a0 p1 ())))) else (M.QZ a0 p1 ()))
noncomputable def M.Q1 (a0 : Zh) (p1 : Int) (p4 : Int) : Option (Int ⊕ (Unit ⊕ Int)) :=
 bif (a0.Zp.getD p1.toNat default).Z1 then (M.Q0 a0 p1 (wr .i64 (p4 + 1))) else (M.Q0 a0 p1 p4)
noncomputable def M.Q2 (a0 : Zh) (p1 : Int) (p3 : Int) : Option (Int ⊕ (Unit ⊕ Int)) :=
 bif !strEq ((a0.Zp.getD p1.toNat default).ZH) (⟨#[]⟩ : ByteArray) then (M.Q1 a0 p1 (wr .i64 (p3 + 1))) else (M.Q1 a0 p1 p3)
noncomputable def M.Va (a0 : Zh) (p1 : Int) : Option (Int ⊕ (Unit ⊕ Int)) :=
 bif decide (p1 < (a0.Zp.length : Int)) then (gd [decide (0 ≤ p1),decide (p1 < (a0.Zp.length : Int))] (bif ((a0.Zp.getD p1.toNat default).QI) != 0 then (M.Q2 a0 p1 1) else (M.Q2 a0 p1 0))) else (some (.inr (.inl ())))
noncomputable def M.VI (a0 : Zh) : Option Int :=
 bif decide ((a0.Zp.length : Int) > 16) then (some 7) else ((loopM (M.Va a0) 0).bind fun y17 => Sum.elim (fun _ => some 0) (fun y19 => some y19) y17)
noncomputable def M.JR (a0 : Zh) (a1 : ByteArray) (p1 : Int) : Option (Int ⊕ (Unit ⊕ Int)) :=
 bif decide (p1 < (a0.XJ.length : Int)) then (gd [decide (0 ≤ p1),decide (p1 < (a0.XJ.length : Int))] (bif strEq ((a0.XJ.getD p1.toNat default).XB) a1 then (some (.inr (.inr p1))) else (some (.inl (wr .i64 (p1 + 1)))))) else (some (.inr (.inl ())))
noncomputable def M.Q9 (a0 : Zh) (a1 : ByteArray) : Option Int :=
 (loopM (M.JR a0 a1) 0).bind fun y3 => Sum.elim (fun _ => some (-1)) (fun y5 => some y5) y3
noncomputable def M.Yz (a1 : List Qt) (p1 : Int) (p7 : Int) : Option (Int ⊕ (Unit ⊕ Int)) :=
 bif decide (p7 < p1) then (gd [decide (0 ≤ p7),decide (p7 < (a1.length : Int))] (bif ((a1.getD p7.toNat default).WR) == ((a1.getD p1.toNat default).WR) then (some (.inr (.inr 4))) else (some (.inl (wr .i64 (p7 + 1)))))) else (some (.inr (.inl ())))
noncomputable def M.YA (a0 : Zh) (a1 : List Qt) (a2 : Int) (a3 : Int) (a4 : Int) (p1 : Int) : Option (Int ⊕ (Unit ⊕ Int)) :=
 bif decide (p1 < (a1.length : Int)) then (gd [decide (0 ≤ p1),decide (p1 < (a1.length : Int))] ((M.ZN ((a1.getD p1.toNat default).WR) 1 5).bind fun r3 => (gc (!((!r3) || (((a1.getD p1.toNat default).WR) == a2))) (M.ZN ((a1.getD p1.toNat default).Qc) a3 a4)).bind fun r4 => (gc (!(((!r3) || (((a1.getD p1.toNat default).WR) == a2)) || (!r4))) (M.ZN ((a1.getD p1.toNat default).UA) 0 65535)).bind fun r5 => bif (((!r3) || (((a1.getD p1.toNat default).WR) == a2)) || (!r4)) || (!r5) then (some (.inr (.inr 1))) else (bif (((a2 == 3) && (((a1.getD p1.toNat default).Zeq) != 1)) && (((a1.getD p1.toNat default).Zeq) != 2)) || ((a2 != 3) && (((a1.getD p1.toNat default).Zeq) != 0)) then (some (.inr (.inr 1))) else ((gc (!strEq ((a1.getD p1.toNat default).ZdN) (⟨#[]⟩ : ByteArray)) (M.Q9 a0 ((a1.getD p1.toNat default).ZdN))).bind fun r6 => bif (!strEq ((a1.getD p1.toNat default).ZdN) (⟨#[]⟩ : ByteArray)) && (decide (r6 < 0)) then (some (.inr (.inr 5))) else ((loopM (M.Yz a1 p1) 0).bind fun y9 => Sum.elim (fun _ => some (.inl (wr .i64 (p1 + 1)))) (fun y11 => some (.inr (.inr y11))) y9))))) else (some (.inr (.inl ())))
noncomputable def M.Yc (a0 : Zh) (a1 : List Qt) (a2 : Int) (a3 : Int) (a4 : Int) : Option Int :=
 bif decide ((a1.length : Int) > 4) then (some 7) else ((loopM (M.YA a0 a1 a2 a3 a4) 0).bind fun y12 => Sum.elim (fun _ => some 0) (fun y14 => some y14) y12)
noncomputable def M.Jg (a0 : Zh) (p2 : Int) (p6 : Int) : Option (Int ⊕ (Unit ⊕ Int)) :=
 bif decide (p6 < p2) then ((gc (((a0.Yw.Z4.getD p6.toNat default).WI) == ((a0.Yw.Z4.getD p2.toNat default).WI)) (M.QN ((a0.Yw.Z4.getD p6.toNat default).Zl) ((a0.Yw.Z4.getD p2.toNat default).Zl))).bind fun r8 => gd [decide (0 ≤ p6),decide (p6 < (a0.Yw.Z4.length : Int)),decide (0 ≤ p2),decide (p2 < (a0.Yw.Z4.length : Int)),guardB (((a0.Yw.Z4.getD p6.toNat default).WI) == ((a0.Yw.Z4.getD p2.toNat default).WI)) (decide (0 ≤ p6)),guardB (((a0.Yw.Z4.getD p6.toNat default).WI) == ((a0.Yw.Z4.getD p2.toNat default).WI)) (decide (p6 < (a0.Yw.Z4.length : Int))),guardB (((a0.Yw.Z4.getD p6.toNat default).WI) == ((a0.Yw.Z4.getD p2.toNat default).WI)) (decide (0 ≤ p2)),guardB (((a0.Yw.Z4.getD p6.toNat default).WI) == ((a0.Yw.Z4.getD p2.toNat default).WI)) (decide (p2 < (a0.Yw.Z4.length : Int)))] (bif (((a0.Yw.Z4.getD p6.toNat default).WI) == ((a0.Yw.Z4.getD p2.toNat default).WI)) && r8 then (some (.inr (.inr 6))) else (some (.inl (wr .i64 (p6 + 1)))))) else (some (.inr (.inl ())))
noncomputable def M.Jh (a0 : Zh) (p2 : Int) : Option (Int ⊕ (Unit ⊕ Int)) :=
 bif decide (p2 < (a0.Yw.Z4.length : Int)) then ((M.ZN ((a0.Yw.Z4.getD p2.toNat default).WI) 0 255).bind fun r4 => (gc (!(!r4)) (M.YZ ((a0.Yw.Z4.getD p2.toNat default).Zl))).bind fun r5 => gd [decide (0 ≤ p2),decide (p2 < (a0.Yw.Z4.length : Int)),guardB (!(!r4)) (decide (0 ≤ p2)),guardB (!(!r4)) (decide (p2 < (a0.Yw.Z4.length : Int)))] (bif (!r4) || (!r5) then (some (.inr (.inr 1))) else ((loopM (M.Jg a0 p2) 0).bind fun y9 => Sum.elim (fun _ => some (.inl (wr .i64 (p2 + 1)))) (fun y11 => some (.inr (.inr y11))) y9))) else (some (.inr (.inl ())))
noncomputable def M.Ju (a0 : Zh) : Option Int :=
 bif !a0.Yw.We then (bif ((a0.Yw.Z2 != 0) || (decide ((a0.Yw.Z4.length : Int) > 0))) || (decide ((a0.Yw.Zu.length : Int) > 0)) then (some 1) else (some 0)) else ((M.ZN a0.Yw.Z2 1 255).bind fun r1 => bif !r1 then (some 1) else (bif decide ((a0.Yw.Z4.length : Int) > 4) then (some 7) else ((loopM (M.Jh a0) 0).bind fun y12 => Sum.elim (fun _ => (M.Yc a0 a0.Yw.Zu 3 0 16777215).bind fun r15 => some r15) (fun y14 => some y14) y12)))
noncomputable def M.J0 (a0 : Zh) : Option Int :=
 bif !a0.YC.We then (bif (((a0.YC.Z2 != 0) || (!strEq a0.YC.Ww (⟨#[]⟩ : ByteArray))) || (!strEq a0.YC.Qr (⟨#[]⟩ : ByteArray))) || (decide ((a0.YC.Zu.length : Int) > 0)) then (some 1) else (some 0)) else ((M.ZN a0.YC.Z2 1 255).bind fun r1 => bif !r1 then (some 1) else ((gc (!strEq a0.YC.Ww (⟨#[]⟩ : ByteArray)) (M.Qa a0 a0.YC.Ww)).bind fun r2 => (gc ((!((!strEq a0.YC.Ww (⟨#[]⟩ : ByteArray)) && (decide (r2 < 0)))) && (!strEq a0.YC.Qr (⟨#[]⟩ : ByteArray))) (M.Qa a0 a0.YC.Qr)).bind fun r3 => bif ((!strEq a0.YC.Ww (⟨#[]⟩ : ByteArray)) && (decide (r2 < 0))) || ((!strEq a0.YC.Qr (⟨#[]⟩ : ByteArray)) && (decide (r3 < 0))) then (some 5) else ((M.Yc a0 a0.YC.Zu 4 1 15).bind fun r4 => some r4)))
noncomputable def M.Ji (a0 : Zh) (p1 : Int) (p6 : Int) : Option (Int ⊕ (Unit ⊕ Int)) :=
 bif decide (p6 < p1) then (gd [decide (0 ≤ p6),decide (p6 < (a0.Xv.Zo.length : Int)),decide (0 ≤ p1),decide (p1 < (a0.Xv.Zo.length : Int))] (bif ((a0.Xv.Zo.getD p6.toNat default).Zn) == ((a0.Xv.Zo.getD p1.toNat default).Zn) then (some (.inr (.inr 4))) else (some (.inl (wr .i64 (p6 + 1)))))) else (some (.inr (.inl ())))
noncomputable def M.Jj (a0 : Zh) (p1 : Int) : Option (Int ⊕ (Unit ⊕ Int)) :=
 bif decide (p1 < (a0.Xv.Zo.length : Int)) then ((gc (!(((a0.Xv.Zo.getD p1.toNat default).Zn) == 0)) (M.ZN ((a0.Xv.Zo.getD p1.toNat default).Kq) 1 65535)).bind fun r3 => gd [decide (0 ≤ p1),decide (p1 < (a0.Xv.Zo.length : Int)),guardB (!(((a0.Xv.Zo.getD p1.toNat default).Zn) == 0)) (decide (0 ≤ p1)),guardB (!(((a0.Xv.Zo.getD p1.toNat default).Zn) == 0)) (decide (p1 < (a0.Xv.Zo.length : Int)))] (bif (((a0.Xv.Zo.getD p1.toNat default).Zn) == 0) || (!r3) then (some (.inr (.inr 1))) else ((gc (!strEq ((a0.Xv.Zo.getD p1.toNat default).Ww) (⟨#[]⟩ : ByteArray)) (M.Q9 a0 ((a0.Xv.Zo.getD p1.toNat default).Ww))).bind fun r4 => (gc ((!((!strEq ((a0.Xv.Zo.getD p1.toNat default).Ww) (⟨#[]⟩ : ByteArray)) && (decide (r4 < 0)))) && (!strEq ((a0.Xv.Zo.getD p1.toNat default).Qr) (⟨#[]⟩ : ByteArray))) (M.Q9 a0 ((a0.Xv.Zo.getD p1.toNat default).Qr))).bind fun r5 => gd [decide (0 ≤ p1),decide (p1 < (a0.Xv.Zo.length : Int)),guardB (!strEq ((a0.Xv.Zo.getD p1.toNat default).Ww) (⟨#[]⟩ : ByteArray)) (decide (0 ≤ p1)),guardB (!strEq ((a0.Xv.Zo.getD p1.toNat default).Ww) (⟨#[]⟩ : ByteArray)) (decide (p1 < (a0.Xv.Zo.length : Int))),guardB (!((!strEq ((a0.Xv.Zo.getD p1.toNat default).Ww) (⟨#[]⟩ : ByteArray)) && (decide (r4 < 0)))) (decide (0 ≤ p1)),guardB (!((!strEq ((a0.Xv.Zo.getD p1.toNat default).Ww) (⟨#[]⟩ : ByteArray)) && (decide (r4 < 0)))) (decide (p1 < (a0.Xv.Zo.length : Int))),guardB ((!((!strEq ((a0.Xv.Zo.getD p1.toNat default).Ww) (⟨#[]⟩ : ByteArray)) && (decide (r4 < 0)))) && (!strEq ((a0.Xv.Zo.getD p1.toNat default).Qr) (⟨#[]⟩ : ByteArray))) (decide (0 ≤ p1)),guardB ((!((!strEq ((a0.Xv.Zo.getD p1.toNat default).Ww) (⟨#[]⟩ : ByteArray)) && (decide (r4 < 0)))) && (!strEq ((a0.Xv.Zo.getD p1.toNat default).Qr) (⟨#[]⟩ : ByteArray))) (decide (p1 < (a0.Xv.Zo.length : Int)))] (bif ((!strEq ((a0.Xv.Zo.getD p1.toNat default).Ww) (⟨#[]⟩ : ByteArray)) && (decide (r4 < 0))) || ((!strEq ((a0.Xv.Zo.getD p1.toNat default).Qr) (⟨#[]⟩ : ByteArray)) && (decide (r5 < 0))) then (some (.inr (.inr 5))) else ((loopM (M.Ji a0 p1) 0).bind fun y8 => Sum.elim (fun _ => some (.inl (wr .i64 (p1 + 1)))) (fun y10 => some (.inr (.inr y10))) y8))))) else (some (.inr (.inl ())))
noncomputable def M.VJ (a0 : Zh) : Option Int :=
 bif decide ((a0.Xv.Zo.length : Int) > 8) then (some 7) else ((loopM (M.Jj a0) 0).bind fun y11 => Sum.elim (fun _ => some 0) (fun y13 => some y13) y11)
noncomputable def M.Qg (a0 : XI) (p1 : Int) (p4 : Int) : Option (Int ⊕ (Unit ⊕ Int)) :=
 bif decide (p4 < p1) then (gd [decide (0 ≤ p4),decide (p4 < (a0.ZT.length : Int)),decide (0 ≤ p1),decide (p1 < (a0.ZT.length : Int))] (bif ((((a0.ZT.getD p4.toNat default).Zn) == ((a0.ZT.getD p1.toNat default).Zn)) && ((((a0.ZT.getD p4.toNat default).ZL) == ((a0.ZT.getD p1.toNat default).ZL)) && true)) then (some (.inr (.inr 4))) else (some (.inl (wr .i64 (p4 + 1)))))) else (some (.inr (.inl ())))
noncomputable def M.Qh (a0 : XI) (p1 : Int) : Option (Int ⊕ (Unit ⊕ Int)) :=
 bif decide (p1 < (a0.ZT.length : Int)) then ((M.YZ (a0.ZT.getD p1.toNat default)).bind fun r3 => gd [decide (0 ≤ p1),decide (p1 < (a0.ZT.length : Int))] (bif !r3 then (some (.inr (.inr 1))) else ((loopM (M.Qg a0 p1) 0).bind fun y6 => Sum.elim (fun _ => some (.inl (wr .i64 (p1 + 1)))) (fun y8 => some (.inr (.inr y8))) y6))) else (some (.inr (.inl ())))
noncomputable def M.Qi (a0 : XI) (p12 : Int) (p15 : Int) : Option (Int ⊕ (Unit ⊕ Int)) :=
 bif decide (p15 < p12) then (gd [decide (0 ≤ p15),decide (p15 < (a0.ZC.length : Int)),decide (0 ≤ p12),decide (p12 < (a0.ZC.length : Int))] (bif (((((a0.ZC.getD p15.toNat default).Zl).Zn) == (((a0.ZC.getD p12.toNat default).Zl).Zn)) && (((((a0.ZC.getD p15.toNat default).Zl).ZL) == (((a0.ZC.getD p12.toNat default).Zl).ZL)) && true)) then (some (.inr (.inr 4))) else (some (.inl (wr .i64 (p15 + 1)))))) else (some (.inr (.inl ())))
noncomputable def M.Qj (a0 : XI) (p12 : Int) : Option (Int ⊕ (Unit ⊕ Int)) :=
 bif decide (p12 < (a0.ZC.length : Int)) then ((M.YZ ((a0.ZC.getD p12.toNat default).Zl)).bind fun r14 => gd [decide (0 ≤ p12),decide (p12 < (a0.ZC.length : Int))] (bif !r14 then (some (.inr (.inr 1))) else ((loopM (M.Qi a0 p12) 0).bind fun y17 => Sum.elim (fun _ => some (.inl (wr .i64 (p12 + 1)))) (fun y19 => some (.inr (.inr y19))) y17))) else (some (.inr (.inl ())))
noncomputable def M.Qk (a0 : XI) (p23 : Int) (p27 : Int) : Option (Int ⊕ (Unit ⊕ Int)) :=
 bif decide (p27 < p23) then (gd [decide (0 ≤ p27),decide (p27 < (a0.Zv.length : Int))] (bif (((((a0.Zv.getD p27.toNat default).Zl).Zn) == (((a0.Zv.getD p23.toNat default).Zl).Zn)) && (((((a0.Zv.getD p27.toNat default).Zl).ZL) == (((a0.Zv.getD p23.toNat default).Zl).ZL)) && true)) then (some (.inr (.inr 4))) else (some (.inl (wr .i64 (p27 + 1)))))) else (some (.inr (.inl ())))
noncomputable def M.Ql (a0 : XI) (p23 : Int) : Option (Int ⊕ (Unit ⊕ Int)) :=
 bif decide (p23 < (a0.Zv.length : Int)) then (gd [decide (0 ≤ p23),decide (p23 < (a0.Zv.length : Int))] ((M.YZ ((a0.Zv.getD p23.toNat default).Zl)).bind fun r25 => (gc (!(!r25)) (M.YZ ((a0.Zv.getD p23.toNat default).fIf))).bind fun r26 => bif (!r25) || (!r26) then (some (.inr (.inr 1))) else (bif (((((a0.Zv.getD p23.toNat default).Zl).Zn) == (((a0.Zv.getD p23.toNat default).fIf).Zn)) && (((((a0.Zv.getD p23.toNat default).Zl).ZL) == (((a0.Zv.getD p23.toNat default).fIf).ZL)) && true)) then (some (.inr (.inr 6))) else ((loopM (M.Qk a0 p23) 0).bind fun y29 => Sum.elim (fun _ => some (.inl (wr .i64 (p23 + 1)))) (fun y31 => some (.inr (.inr y31))) y29)))) else (some (.inr (.inl ())))
noncomputable def M.Jk (a0 : XI) : Option Int :=
 bif decide ((a0.ZT.length : Int) > 8) then (some 7) else ((loopM (M.Qh a0) 0).bind fun y9 => Sum.elim (fun _ => bif decide ((a0.ZC.length : Int) > 8) then (some 7) else ((loopM (M.Qj a0) 0).bind fun y20 => Sum.elim (fun _ => bif decide ((a0.Zv.length : Int) > 8) then (some 7) else ((loopM (M.Ql a0) 0).bind fun y32 => Sum.elim (fun _ => some 0) (fun y34 => some y34) y32)) (fun y22 => some y22) y20)) (fun y11 => some y11) y9)
noncomputable def M.Q3 (a0 : Zh) : Option Int :=
 bif !a0.Xv.We then (bif ((a0.Xv.XZ != 0) || (a0.Xv.X0 != 0)) || (decide ((wr .i64 ((wr .i64 ((wr .i64 ((wr .i64 ((a0.Xv.Zo.length : Int) + (a0.Xv.ZT.length : Int))) + (a0.Xv.ZC.length : Int))) + (a0.Xv.Zv.length : Int))) + (a0.Xv.Zu.length : Int))) > 0)) then (some 1) else (some 0)) else ((gc (!(a0.Kq == 0)) (M.ZN a0.Xv.XZ 1 255)).bind fun r1 => (gc (!((a0.Kq == 0) || (!r1))) (M.ZN a0.Xv.X0 1 255)).bind fun r2 => bif ((a0.Kq == 0) || (!r1)) || (!r2) then (some 1) else ((M.VJ a0).bind fun r3 => bif r3 != 0 then (some r3) else ((M.Jk a0.Xv).bind fun r4 => bif r4 != 0 then (some r4) else ((M.Yc a0 a0.Xv.Zu 5 0 16777215).bind fun r5 => some r5))))
noncomputable def M.Yp (r3 : Int) (r4 : Int) (r5 : Int) (r6 : Int) (r7 : Int) (r8 : Int) (r9 : Int) (r10 : Int) (r11 : Int) (r12 : Int) (p13 : Int) : Option (Int ⊕ (Unit ⊕ Int)) :=
 bif decide (p13 < (([r3,r4,r5,r6,r7,r8,r9,r10,r11,r12] : List Int).length : Int)) then (gd [decide (0 ≤ p13),decide (p13 < (([r3,r4,r5,r6,r7,r8,r9,r10,r11,r12] : List Int).length : Int))] (bif (([r3,r4,r5,r6,r7,r8,r9,r10,r11,r12] : List Int).getD p13.toNat default) != 0 then (gd [decide (0 ≤ p13),decide (p13 < (([r3,r4,r5,r6,r7,r8,r9,r10,r11,r12] : List Int).length : Int))] (some (.inr (.inr (([r3,r4,r5,r6,r7,r8,r9,r10,r11,r12] : List Int).getD p13.toNat default))))) else (some (.inl (wr .i64 (p13 + 1)))))) else (some (.inr (.inl ())))
noncomputable def M.YB (a0 : Zh) : Option Int :=
 (M.Jq a0.XB).bind fun r1 => bif !r1 then (some 3) else ((M.ZN a0.Kq 0 65535).bind fun r2 => bif !r2 then (some 1) else ((M.Yo a0.Zc).bind fun r3 => (M.QL a0.YM).bind fun r4 => (M.Js a0).bind fun r5 => (M.QM a0.YW).bind fun r6 => (M.Qf a0).bind fun r7 => (M.VH a0).bind fun r8 => (M.VI a0).bind fun r9 => (M.Ju a0).bind fun r10 => (M.J0 a0).bind fun r11 => (M.Q3 a0).bind fun r12 => (loopM (M.Yp r3 r4 r5 r6 r7 r8 r9 r10 r11 r12) 0).bind fun y15 => Sum.elim (fun _ => some 0) (fun y17 => some y17) y15))
noncomputable def M.J1 (a0 : ZG) (p1 : Int) (p4 : Int) : Option (Int ⊕ (Unit ⊕ Int)) :=
 bif decide (p4 < p1) then (gd [decide (0 ≤ p4),decide (p4 < (a0.Ze.length : Int)),decide (0 ≤ p1),decide (p1 < (a0.Ze.length : Int))] (bif strEq ((a0.Ze.getD p4.toNat default).XB) ((a0.Ze.getD p1.toNat default).XB) then (some (.inr (.inr 4))) else (some (.inl (wr .i64 (p4 + 1)))))) else (some (.inr (.inl ())))
noncomputable def M.JF (a0 : ZG) (p1 : Int) (p9 : Int) (p11 : Int) : Option (Int ⊕ (Unit ⊕ Int)) :=
 bif decide (p11 < p1) then ((gc (((((a0.Ze.getD p1.toNat default).Zc).getD p9.toNat default).ZL) != 0) (M.J8 (a0.Ze.getD p11.toNat default) ((((a0.Ze.getD p1.toNat default).Zc).getD p9.toNat default).Zn))).bind fun r13 => gd [guardB (((((a0.Ze.getD p1.toNat default).Zc).getD p9.toNat default).ZL) != 0) (decide (0 ≤ p11)),guardB (((((a0.Ze.getD p1.toNat default).Zc).getD p9.toNat default).ZL) != 0) (decide (p11 < (a0.Ze.length : Int)))] (bif (((((a0.Ze.getD p1.toNat default).Zc).getD p9.toNat default).ZL) != 0) && (decide (r13 ≥ 0)) then (some (.inr (.inr 4))) else (some (.inl (wr .i64 (p11 + 1)))))) else (some (.inr (.inl ())))
noncomputable def M.JG (a0 : ZG) (p1 : Int) (p9 : Int) : Option (Int ⊕ (Unit ⊕ Int)) :=
 gd [decide (0 ≤ p1),decide (p1 < (a0.Ze.length : Int))] (bif decide (p9 < (((a0.Ze.getD p1.toNat default).Zc).length : Int)) then (gd [decide (0 ≤ p1),decide (p1 < (a0.Ze.length : Int)),decide (0 ≤ p9),decide (p9 < (((a0.Ze.getD p1.toNat default).Zc).length : Int))] ((loopM (M.JF a0 p1 p9) 0).bind fun y14 => Sum.elim (fun _ => some (.inl (wr .i64 (p9 + 1)))) (fun y16 => some (.inr (.inr y16))) y14)) else (some (.inr (.inl ()))))
noncomputable def M.JH (a0 : ZG) (p1 : Int) : Option (Int ⊕ (Unit ⊕ Int)) :=
 bif decide (p1 < (a0.Ze.length : Int)) then ((M.YB (a0.Ze.getD p1.toNat default)).bind fun r3 => gd [decide (0 ≤ p1),decide (p1 < (a0.Ze.length : Int))] (bif r3 != 0 then (some (.inr (.inr r3))) else ((loopM (M.J1 a0 p1) 0).bind fun y6 => Sum.elim (fun _ => (loopM (M.JG a0 p1) 0).bind fun y17 => Sum.elim (fun _ => some (.inl (wr .i64 (p1 + 1)))) (fun y19 => some (.inr (.inr y19))) y17) (fun y8 => some (.inr (.inr y8))) y6))) else (some (.inr (.inl ())))
noncomputable def M.Jv (a0 : ZG) : Option Int :=
 bif decide ((a0.Ze.length : Int) > 8) then (some 7) else ((loopM (M.JH a0) 0).bind fun y20 => Sum.elim (fun _ => some 0) (fun y22 => some y22) y20)
noncomputable def M.Vb (a0 : ZM) (a1 : ZM) : Option Int :=
 bif (decide (a0.Zn < a1.Zn)) || ((a0.Zn == a1.Zn) && (decide (a0.ZL < a1.ZL))) then (some (-1)) else (bif ((a0.Zn == a1.Zn) && ((a0.ZL == a1.ZL) && true)) then (some 0) else (some 1))
noncomputable def M.Uj (p16 : (List Zi) × Int) (p18 : (List Zi)) : Option (((List Zi) × Int) ⊕ (List Zi)) :=
 some (.inl (p18,wr .i64 (p16.2 + 1)))
noncomputable def M.WK (a0 : ZG) (p14 : (List Zi) × Int) (p16 : (List Zi) × Int) (r19 : ZM) (p20 : Int) : Option (Int ⊕ Int) :=
 (gc (decide (p20 < (p16.1.length : Int))) (M.Vb ((p16.1.getD (0 + p20.toNat) default).Zl) r19)).bind fun r22 => gd [guardB (decide (p20 < (p16.1.length : Int))) (decide (0 ≤ p20)),guardB (decide (p20 < (p16.1.length : Int))) (decide (p20 < (p16.1.length : Int))),guardB ((decide (p20 < (p16.1.length : Int))) && !(decide (r22 < 0))) (decide (0 ≤ p20)),guardB ((decide (p20 < (p16.1.length : Int))) && !(decide (r22 < 0))) (decide (p20 < (p16.1.length : Int))),guardB (((decide (p20 < (p16.1.length : Int))) && !(decide (r22 < 0))) && (((((p16.1.getD (0 + p20.toNat) default).Zl).Zn) == r19.Zn) && (((((p16.1.getD (0 + p20.toNat) default).Zl).ZL) == r19.ZL) && true))) (decide (0 ≤ p20)),guardB (((decide (p20 < (p16.1.length : Int))) && !(decide (r22 < 0))) && (((((p16.1.getD (0 + p20.toNat) default).Zl).Zn) == r19.Zn) && (((((p16.1.getD (0 + p20.toNat) default).Zl).ZL) == r19.ZL) && true))) (decide (p20 < (p16.1.length : Int)))] (bif (decide (p20 < (p16.1.length : Int))) && ((decide (r22 < 0)) || ((((((p16.1.getD (0 + p20.toNat) default).Zl).Zn) == r19.Zn) && (((((p16.1.getD (0 + p20.toNat) default).Zl).ZL) == r19.ZL) && true)) && (decide (((p16.1.getD (0 + p20.toNat) default).XH) < ((((a0.Ze.getD p14.2.toNat default).Zc).getD p16.2.toNat default).XH))))) then (some (.inl (wr .i64 (p20 + 1)))) else (some (.inr p20)))
noncomputable def M.Uk (p14 : (List Zi) × Int) (p16 : (List Zi) × Int) (y23 : Int) (p24 : (List Zi)) : Option (((List Zi) × Int) ⊕ (List Zi)) :=
 gd [decide (0 ≤ y23),decide (y23 < (p24.length : Int)),decide ((((p24.getD (0 + y23.toNat) default).ZR).length + 1) * 16 ≤ 140737488355328),decide (0 ≤ y23),decide (y23 < (p24.length : Int))] (M.Uj p16 (p24.set (0 + y23.toNat) (⟨(p24.getD (0 + y23.toNat) default).Zl,(p24.getD (0 + y23.toNat) default).XH,((p24.getD (0 + y23.toNat) default).ZR) ++ [(⟨p14.2,p16.2⟩ : Vz)]⟩ : Zi)))
noncomputable def M.WL (a0 : ZG) (p14 : (List Zi) × Int) (p16 : (List Zi) × Int) : Option (((List Zi) × Int) ⊕ (List Zi)) :=
 gd [decide (0 ≤ p14.2),decide (p14.2 < (a0.Ze.length : Int))] (bif decide (p16.2 < (((a0.Ze.getD p14.2.toNat default).Zc).length : Int)) then (gd [decide (0 ≤ p14.2),decide (p14.2 < (a0.Ze.length : Int)),decide (0 ≤ p16.2),decide (p16.2 < (((a0.Ze.getD p14.2.toNat default).Zc).length : Int))] (bif (((((a0.Ze.getD p14.2.toNat default).Zc).getD p16.2.toNat default).ZL) == 0) || ((((a0.Ze.getD p14.2.toNat default).Zc).getD p16.2.toNat default).Jp) then (M.Uj p16 p16.1) else ((M.QT ((((a0.Ze.getD p14.2.toNat default).Zc).getD p16.2.toNat default).Zn) ((((a0.Ze.getD p14.2.toNat default).Zc).getD p16.2.toNat default).ZL)).bind fun r19 => (loopM (M.WK a0 p14 p16 r19) 0).bind fun y23 => gd [guardB (!(y23 == (p16.1.length : Int))) (decide (0 ≤ y23)),guardB (!(y23 == (p16.1.length : Int))) (decide (y23 < (p16.1.length : Int))),guardB (!((y23 == (p16.1.length : Int)) || (!(((((p16.1.getD (0 + y23.toNat) default).Zl).Zn) == r19.Zn) && (((((p16.1.getD (0 + y23.toNat) default).Zl).ZL) == r19.ZL) && true))))) (decide (0 ≤ y23)),guardB (!((y23 == (p16.1.length : Int)) || (!(((((p16.1.getD (0 + y23.toNat) default).Zl).Zn) == r19.Zn) && (((((p16.1.getD (0 + y23.toNat) default).Zl).ZL) == r19.ZL) && true))))) (decide (y23 < (p16.1.length : Int)))] (bif ((y23 == (p16.1.length : Int)) || (!(((((p16.1.getD (0 + y23.toNat) default).Zl).Zn) == r19.Zn) && (((((p16.1.getD (0 + y23.toNat) default).Zl).ZL) == r19.ZL) && true)))) || (((p16.1.getD (0 + y23.toNat) default).XH) != ((((a0.Ze.getD p14.2.toNat default).Zc).getD p16.2.toNat default).XH)) then (gd [decide (0 ≤ y23),decide (y23 ≤ (p16.1.length : Int)),decide (0 = 0) || decide (0 < (p16.1.length - y23.toNat)),decide ((0 + (p16.1.length - y23.toNat)) * 48 ≤ 140737488355328)] (gd [decide (0 ≤ y23),decide (y23 ≤ (p16.1.length : Int)),decide (((y23.toNat - 0) + 1) * 48 ≤ 140737488355328),decide ((((y23.toNat - 0) + 1) + (0 + (p16.1.length - y23.toNat))) * 48 ≤ 140737488355328)] (M.Uk p14 p16 y23 (insL p16.1 y23.toNat (⟨r19,(((a0.Ze.getD p14.2.toNat default).Zc).getD p16.2.toNat default).XH,([] : List Vz)⟩ : Zi))))) else (M.Uk p14 p16 y23 p16.1))))) else (some (.inr p16.1)))
noncomputable def M.WM (a0 : ZG) (p14 : (List Zi) × Int) : Option (((List Zi) × Int) ⊕ (List Zi)) :=
 bif decide (p14.2 < (a0.Ze.length : Int)) then ((loopM (M.WL a0 p14) (p14.1,0)).bind fun y25 => some (.inl (y25,wr .i64 (p14.2 + 1)))) else (some (.inr p14.1))
noncomputable def M.Ul (p28 : (List Int) × Int) (p30 : (List Int)) : Option (((List Int) × Int) ⊕ (List Int)) :=
 some (.inl (p30,wr .i64 (p28.2 + 1)))
noncomputable def M.WN (y26 : (List Zi)) (p28 : (List Int) × Int) : Option (((List Int) × Int) ⊕ (List Int)) :=
 bif decide (p28.2 < (y26.length : Int)) then (gd [decide (0 ≤ p28.2),decide (p28.2 < (y26.length : Int))] (bif decide ((((y26.getD p28.2.toNat default).ZR).length : Int) > 1) then (gd [decide ((p28.1.length + 1) * 8 ≤ 140737488355328)] (M.Ul p28 (p28.1 ++ [p28.2]))) else (M.Ul p28 p28.1))) else (some (.inr p28.1))
noncomputable def M.U0 (a0 : ZG) : Option (JO × Int) :=
 (M.Jv a0).bind fun r1 => bif r1 != 0 then (some ((⟨([] : List Zi),([] : List Int)⟩ : JO),r1)) else ((loopM (M.WM a0) (([] : List Zi),0)).bind fun y26 => (loopM (M.WN y26) (([] : List Int),0)).bind fun y31 => bif decide ((y31.length : Int) > 12) then (some ((⟨([] : List Zi),([] : List Int)⟩ : JO),7)) else (some ((⟨y26,y31⟩ : JO),0)))
noncomputable def M.Yf (a0 : List Int) (a1 : Int) (p1 : Int) : Option (Int ⊕ (Unit ⊕ Bool)) :=
 bif decide (p1 < (a0.length : Int)) then (gd [decide (0 ≤ p1),decide (p1 < (a0.length : Int)),guardB (!(decide ((a0.getD p1.toNat default) < 0))) (decide (0 ≤ p1)),guardB (!(decide ((a0.getD p1.toNat default) < 0))) (decide (p1 < (a0.length : Int))),guardB ((!((decide ((a0.getD p1.toNat default) < 0)) || (decide ((a0.getD p1.toNat default) ≥ a1)))) && (decide (p1 > 0))) (decide (0 ≤ p1)),guardB ((!((decide ((a0.getD p1.toNat default) < 0)) || (decide ((a0.getD p1.toNat default) ≥ a1)))) && (decide (p1 > 0))) (decide (p1 < (a0.length : Int))),guardB ((!((decide ((a0.getD p1.toNat default) < 0)) || (decide ((a0.getD p1.toNat default) ≥ a1)))) && (decide (p1 > 0))) (decide (0 ≤ (wr .i64 (p1 - 1)))),guardB ((!((decide ((a0.getD p1.toNat default) < 0)) || (decide ((a0.getD p1.toNat default) ≥ a1)))) && (decide (p1 > 0))) (decide ((wr .i64 (p1 - 1)) < (a0.length : Int)))] (bif ((decide ((a0.getD p1.toNat default) < 0)) || (decide ((a0.getD p1.toNat default) ≥ a1))) || ((decide (p1 > 0)) && (decide ((a0.getD p1.toNat default) ≤ (a0.getD (wr .i64 (p1 - 1)).toNat default)))) then (some (.inr (.inr false))) else (some (.inl (wr .i64 (p1 + 1)))))) else (some (.inr (.inl ())))
noncomputable def M.Q4 (a0 : List Int) (a1 : Int) : Option Bool :=
 bif decide ((a0.length : Int) > 2) then (some false) else ((loopM (M.Yf a0 a1) 0).bind fun y3 => Sum.elim (fun _ => some true) (fun y5 => some y5) y3)
noncomputable def M.RH (a0 : ZG) (a1 : List Int) : Option (XU × Int) :=
 (M.U0 a0).bind fun r1 => bif r1.2 != 0 then (some ((⟨(⟨([] : List Zh)⟩ : ZG),(⟨([] : List Zi),([] : List Int)⟩ : JO),([] : List Int)⟩ : XU),r1.2)) else ((M.Q4 a1 (r1.1.JP.length : Int)).bind fun r2 => bif !r2 then (some ((⟨(⟨([] : List Zh)⟩ : ZG),(⟨([] : List Zi),([] : List Int)⟩ : JO),([] : List Int)⟩ : XU),1)) else (gd [decide (0 = 0) || decide (0 < a1.length),decide ((0 + a1.length) * 8 ≤ 140737488355328)] (some ((⟨a0,r1.1,(a1 : List Int)⟩ : XU),0))))
noncomputable def M.Gn (a0 : ZG) (a1 : List Int) : Option (XU × Bool) :=
 (M.Vr a0).bind fun r1 => bif (!r1) || (decide ((a1.length : Int) > 2)) then (some ((⟨(⟨([] : List Zh)⟩ : ZG),(⟨([] : List Zi),([] : List Int)⟩ : JO),([] : List Int)⟩ : XU),false)) else ((M.RH a0 a1).bind fun r2 => some (r2.1,r2.2 == 0))
noncomputable def M.XR (a0 : Int) (a1 : Int) (a2 : Int) : Option Bool :=
 some ((decide (a1 ≤ a0)) && (decide (a0 ≤ a2)))
noncomputable def M.QQ (a0 : Z3) (a1 : Bool) (a2 : Bool) (a3 : Bool) : Option Bool :=
 some (((a1 || (a0.RG == 0)) && (a2 || (((a0.ZfK == 0) && ((a0.WW.length : Int) == 0)) && (a0.WR == 0)))) && (a3 || (a0.QI == 0)))
noncomputable def M.Wa (a0 : ZY) (a1 : ZY) : Option Bool :=
 some ((decide (a0.ZH < a1.ZH)) || ((a0.ZH == a1.ZH) && (decide (a0.Zn < a1.Zn))))
noncomputable def M.Wb (a0 : List ZY) (a1 : Bool) (p1 : Int) : Option (Int ⊕ (Unit ⊕ Bool)) :=
 bif decide (p1 < (a0.length : Int)) then ((gc ((!(decide (((a0.getD p1.toNat default).ZH) < 0))) && (decide (p1 > 0))) (M.Wa (a0.getD (wr .i64 (p1 - 1)).toNat default) (a0.getD p1.toNat default))).bind fun r3 => gd [decide (0 ≤ p1),decide (p1 < (a0.length : Int)),guardB ((!(decide (((a0.getD p1.toNat default).ZH) < 0))) && (decide (p1 > 0))) (decide (0 ≤ (wr .i64 (p1 - 1)))),guardB ((!(decide (((a0.getD p1.toNat default).ZH) < 0))) && (decide (p1 > 0))) (decide ((wr .i64 (p1 - 1)) < (a0.length : Int))),guardB ((!(decide (((a0.getD p1.toNat default).ZH) < 0))) && (decide (p1 > 0))) (decide (0 ≤ p1)),guardB ((!(decide (((a0.getD p1.toNat default).ZH) < 0))) && (decide (p1 > 0))) (decide (p1 < (a0.length : Int))),guardB (!((decide (((a0.getD p1.toNat default).ZH) < 0)) || ((decide (p1 > 0)) && (!r3)))) (decide (0 ≤ p1)),guardB (!((decide (((a0.getD p1.toNat default).ZH) < 0)) || ((decide (p1 > 0)) && (!r3)))) (decide (p1 < (a0.length : Int)))] (bif ((decide (((a0.getD p1.toNat default).ZH) < 0)) || ((decide (p1 > 0)) && (!r3))) || (!((((a0.getD p1.toNat default).Zn) == 0) == a1)) then (some (.inr (.inr false))) else (some (.inl (wr .i64 (p1 + 1)))))) else (some (.inr (.inl ())))
noncomputable def M.QV (a0 : List ZY) (a1 : Bool) : Option Bool :=
 (loopM (M.Wb a0 a1) 0).bind fun y4 => Sum.elim (fun _ => some true) (fun y6 => some y6) y4
noncomputable def M.Jl (a0 : Z3) : Option Bool :=
 (gc (!((a0.Yi != 0) || (a0.Qc != 0))) (M.XR a0.Z2 1 255)).bind fun r1 => (gc (!(((a0.Yi != 0) || (a0.Qc != 0)) || (!r1))) (M.QQ a0 false false true)).bind fun r2 => bif (((a0.Yi != 0) || (a0.Qc != 0)) || (!r1)) || (!r2) then (some false) else (bif a0.QI != 0 then (some (((a0.ZU.length : Int) == 0) && (!a0.Z1))) else (bif a0.Z1 then (some ((a0.ZU.length : Int) == 0)) else ((gc ((a0.ZU.length : Int) == 1) (M.QV a0.ZU true)).bind fun r3 => some (((a0.ZU.length : Int) == 1) && r3))))
noncomputable def M.Qm (a0 : Z3) : Option Bool :=
 (M.XR a0.Yi 1 4).bind fun r1 => (gc (!(!r1)) (M.XR a0.Z2 1 255)).bind fun r2 => (gc (!((!r1) || (!r2))) (M.XR a0.Qc 0 1073741824)).bind fun r3 => (gc (!(((!r1) || (!r2)) || (!r3))) (M.QQ a0 true false false)).bind fun r4 => bif (((!r1) || (!r2)) || (!r3)) || (!r4) then (some false) else ((M.XR a0.RG 0 1073741824).bind fun r5 => bif (!r5) || ((a0.Yi != 4) && (a0.RG != 0)) then (some false) else (bif a0.Z1 then (some ((((a0.Yi == 1) && (a0.Qc == 0)) && (a0.UA == 0)) && ((a0.ZU.length : Int) == 0))) else ((gc (decide ((a0.ZU.length : Int) > 0)) (M.QV a0.ZU false)).bind fun r6 => some ((decide ((a0.ZU.length : Int) > 0)) && r6))))
noncomputable def M.QE (a0 : Z3) : Option Bool :=
 (M.XR a0.Z2 1 255).bind fun r1 => (gc (!(!r1)) (M.XR a0.Qc 1 15)).bind fun r2 => (gc (!((!r1) || (!r2))) (M.QQ a0 false false false)).bind fun r3 => bif (((!r1) || (!r2)) || (!r3)) || a0.Z1 then (some false) else (bif a0.Yi == 1 then ((gc (((a0.Qc == 1) && (a0.UA == 0)) && ((a0.ZU.length : Int) == 1)) (M.QV a0.ZU true)).bind fun r4 => some ((((a0.Qc == 1) && (a0.UA == 0)) && ((a0.ZU.length : Int) == 1)) && r4)) else (bif a0.Yi == 2 then (some ((a0.ZU.length : Int) == 0)) else (bif a0.Yi == 3 then ((gc (decide ((a0.ZU.length : Int) > 0)) (M.QV a0.ZU false)).bind fun r5 => some ((decide ((a0.ZU.length : Int) > 0)) && r5)) else (some false))))
noncomputable def M.Y0 (a0 : Z3) (p6 : Bool) : Option Bool :=
 bif p6 then ((gc ((((a0.Yi == 4) || (decide ((a0.WW.length : Int) > 0))) && (a0.WR != 0)) && ((a0.ZU.length : Int) == 1)) (M.QV a0.ZU false)).bind fun r7 => gd [guardB (((((a0.Yi == 4) || (decide ((a0.WW.length : Int) > 0))) && (a0.WR != 0)) && ((a0.ZU.length : Int) == 1)) && r7) (decide (0 ≤ 0)),guardB (((((a0.Yi == 4) || (decide ((a0.WW.length : Int) > 0))) && (a0.WR != 0)) && ((a0.ZU.length : Int) == 1)) && r7) (decide (0 < (a0.ZU.length : Int)))] (some (((((((a0.Yi == 4) || (decide ((a0.WW.length : Int) > 0))) && (a0.WR != 0)) && ((a0.ZU.length : Int) == 1)) && r7) && (((a0.ZU.getD (0 : Int).toNat default).Zn) == a0.WR)) && (!a0.Z1)))) else (some false)
noncomputable def M.Y1 (a0 : Z3) (p5 : Bool) : Option Bool :=
 bif p5 then (some (((((a0.WW.length : Int) == 0) && (a0.WR == 0)) && ((a0.ZU.length : Int) == 0)) && (a0.Z1 == (a0.Yi == 2)))) else (bif a0.Yi == 3 then (M.Y0 a0 (a0.Yi == 3)) else (M.Y0 a0 (a0.Yi == 4)))
noncomputable def M.Vc (a0 : Z3) : Option Bool :=
 (M.XR a0.Z2 1 255).bind fun r1 => (gc (!(!r1)) (M.XR a0.Qc 0 16777215)).bind fun r2 => (gc (!((!r1) || (!r2))) (M.XR a0.ZfK 0 1000000)).bind fun r3 => (gc (!(((!r1) || (!r2)) || (!r3))) (M.QQ a0 false true false)).bind fun r4 => bif (((!r1) || (!r2)) || (!r3)) || (!r4) then (some false) else (bif a0.Yi == 1 then (M.Y1 a0 (a0.Yi == 1)) else (M.Y1 a0 (a0.Yi == 2)))
noncomputable def M.VK (a0 : Z3) (p3 : Int) : Option (Int ⊕ (Unit ⊕ Bool)) :=
 bif decide (p3 < (a0.WW.length : Int)) then ((M.XR (a0.WW.getD p3.toNat default) 1 65535).bind fun r5 => gd [decide (0 ≤ p3),decide (p3 < (a0.WW.length : Int))] (bif !r5 then (some (.inr (.inr false))) else (some (.inl (wr .i64 (p3 + 1)))))) else (some (.inr (.inl ())))
noncomputable def M.WY (a0 : Z3) : Option Bool :=
 (M.YZ a0.Zl).bind fun r1 => (gc (!(!r1)) (M.XR a0.UA 0 65535)).bind fun r2 => bif ((!r1) || (!r2)) || (decide ((a0.WW.length : Int) > 64)) then (some false) else ((loopM (M.VK a0) 0).bind fun y6 => Sum.elim (fun _ => bif a0.X1 == 1 then ((gc ((((a0.Yi == 0) && (a0.Z2 == 0)) && (a0.Qc == 0)) && (a0.UA == 0)) (M.QQ a0 false false false)).bind fun r9 => (gc (((((((a0.Yi == 0) && (a0.Z2 == 0)) && (a0.Qc == 0)) && (a0.UA == 0)) && r9) && (!a0.Z1)) && ((a0.ZU.length : Int) == 1)) (M.QV a0.ZU true)).bind fun r10 => some ((((((((a0.Yi == 0) && (a0.Z2 == 0)) && (a0.Qc == 0)) && (a0.UA == 0)) && r9) && (!a0.Z1)) && ((a0.ZU.length : Int) == 1)) && r10)) else (bif a0.X1 == 2 then ((M.Jl a0).bind fun r11 => some r11) else (bif a0.X1 == 3 then ((M.Qm a0).bind fun r12 => some r12) else (bif a0.X1 == 4 then ((M.QE a0).bind fun r13 => some r13) else (bif a0.X1 == 5 then ((M.Vc a0).bind fun r14 => some r14) else (some false)))))) (fun y8 => some y8) y6)
noncomputable def M.VL (a0 : List Z3) (a1 : Int) (p1 : Int) : Option (Int ⊕ (Unit ⊕ Bool)) :=
 bif decide (p1 < (a0.length : Int)) then ((M.WY (a0.getD p1.toNat default)).bind fun r3 => (gc ((!((!r3) || ((a1 != 0) && (((a0.getD p1.toNat default).X1) != a1)))) && (decide (p1 > 0))) (M.Vb ((a0.getD (wr .i64 (p1 - 1)).toNat default).Zl) ((a0.getD p1.toNat default).Zl))).bind fun r4 => gd [decide (0 ≤ p1),decide (p1 < (a0.length : Int)),guardB ((!(!r3)) && (a1 != 0)) (decide (0 ≤ p1)),guardB ((!(!r3)) && (a1 != 0)) (decide (p1 < (a0.length : Int))),guardB ((!((!r3) || ((a1 != 0) && (((a0.getD p1.toNat default).X1) != a1)))) && (decide (p1 > 0))) (decide (0 ≤ (wr .i64 (p1 - 1)))),guardB ((!((!r3) || ((a1 != 0) && (((a0.getD p1.toNat default).X1) != a1)))) && (decide (p1 > 0))) (decide ((wr .i64 (p1 - 1)) < (a0.length : Int))),guardB ((!((!r3) || ((a1 != 0) && (((a0.getD p1.toNat default).X1) != a1)))) && (decide (p1 > 0))) (decide (0 ≤ p1)),guardB ((!((!r3) || ((a1 != 0) && (((a0.getD p1.toNat default).X1) != a1)))) && (decide (p1 > 0))) (decide (p1 < (a0.length : Int)))] (bif ((!r3) || ((a1 != 0) && (((a0.getD p1.toNat default).X1) != a1))) || ((decide (p1 > 0)) && (decide (r4 ≥ 0))) then (some (.inr (.inr false))) else (some (.inl (wr .i64 (p1 + 1)))))) else (some (.inr (.inl ())))
noncomputable def M.WZ (a0 : List Z3) (a1 : Int) : Option Bool :=
 (loopM (M.VL a0 a1) 0).bind fun y5 => Sum.elim (fun _ => some true) (fun y7 => some y7) y5
noncomputable def M.JI (a0 : Z3) : Option Bool :=
 some ((a0.X1 == 2) && (a0.QI != 0))
noncomputable def M.Jw (a0 : Int) : Option Int :=
 some (if (if 32 < a0 then 32 else a0) > 0 then (if 32 < a0 then 32 else a0) else 0)
noncomputable def M.JS (a0 : Int) : Option Int :=
 (M.Jw a0).bind fun r1 => gd [decide (0 ≤ (wr .i64 (32 - r1)))] (some (wr .u32 (4294967295 * 2 ^ min (wr .i64 (32 - r1)).toNat 32)))
noncomputable def M.YQ (a0 : ZM) (a1 : Int) : Option Bool :=
 (M.JS a0.ZL).bind fun r1 => some ((bitD .and .u32 a1 r1) == a0.Zn)
noncomputable def M.Yg (p1 : Int × Int) (p3 : Int) : Option ((Int × Int) ⊕ Int) :=
 some (.inl (p3,wr .i64 (p1.2 + 1)))
noncomputable def M.Y2 (a0 : List Z3) (a1 : ZM) (a2 : Int) (p1 : Int × Int) : Option ((Int × Int) ⊕ Int) :=
 bif decide (p1.2 < (a0.length : Int)) then (gd [decide (0 ≤ p1.2),decide (p1.2 < (a0.length : Int))] ((gc (!(((((a0.getD p1.2.toNat default).Zl).Zn) == a1.Zn) && (((((a0.getD p1.2.toNat default).Zl).ZL) == a1.ZL) && true))) (M.YQ ((a0.getD p1.2.toNat default).Zl) a2)).bind fun r4 => bif (((((a0.getD p1.2.toNat default).Zl).Zn) == a1.Zn) && (((((a0.getD p1.2.toNat default).Zl).ZL) == a1.ZL) && true)) || (!r4) then (M.Yg p1 p1.1) else (gd [guardB (!(decide (p1.1 < 0))) (decide (0 ≤ p1.1)),guardB (!(decide (p1.1 < 0))) (decide (p1.1 < (a0.length : Int)))] (bif (decide (p1.1 < 0)) || (decide ((((a0.getD p1.2.toNat default).Zl).ZL) > (((a0.getD p1.1.toNat default).Zl).ZL))) then (M.Yg p1 p1.2) else (M.Yg p1 p1.1))))) else (some (.inr p1.1))
noncomputable def M.Qb (a0 : List Z3) (a1 : ZM) (a2 : Int) : Option Int :=
 (loopM (M.Y2 a0 a1 a2) ((-1),0)).bind fun y5 => some y5
noncomputable def M.XV (a0 : List ZY) : Option (List ZY) :=
 gd [decide (0 = 0) || decide (0 < a0.length),decide ((0 + a0.length) * 16 ≤ 140737488355328)] (some a0)
noncomputable def M.Q5 (p2 : (List ZY) × Int) (p4 : (List ZY)) : Option (((List ZY) × Int) ⊕ (List ZY)) :=
 some (.inl (p4,wr .i64 (p2.2 + 1)))
noncomputable def M.Q6 (a1 : Int) (r1 : (List ZY)) (p2 : (List ZY) × Int) : Option (((List ZY) × Int) ⊕ (List ZY)) :=
 bif decide (p2.2 < (r1.length : Int)) then (gd [decide (0 ≤ p2.2),decide (p2.2 < (p2.1.length : Int))] (bif ((p2.1.getD (0 + p2.2.toNat) default).Zn) == 0 then (gd [decide (0 ≤ p2.2),decide (p2.2 < (p2.1.length : Int))] (M.Q5 p2 (p2.1.set (0 + p2.2.toNat) (⟨(p2.1.getD (0 + p2.2.toNat) default).ZH,a1⟩ : ZY)))) else (M.Q5 p2 p2.1))) else (some (.inr p2.1))
noncomputable def M.Wg (a0 : List ZY) (a1 : Int) : Option (List ZY) :=
 (M.XV a0).bind fun r1 => (loopM (M.Q6 a1 r1) (r1,0)).bind fun y5 => some y5
noncomputable def M.Jx (a0 : List Z3) (p1 : (List Bool) × Int) : Option (((List Bool) × Int) ⊕ (Int ⊕ (List ZY))) :=
 (gc (!((a0.getD p1.2.toNat default).Z1)) (M.JI (a0.getD p1.2.toNat default))).bind fun r3 => gd [decide (0 ≤ p1.2),decide (p1.2 < (a0.length : Int)),guardB (!((a0.getD p1.2.toNat default).Z1)) (decide (0 ≤ p1.2)),guardB (!((a0.getD p1.2.toNat default).Z1)) (decide (p1.2 < (a0.length : Int)))] (bif (!((a0.getD p1.2.toNat default).Z1)) && r3 then (gd [decide (0 ≤ p1.2),decide (p1.2 < (p1.1.length : Int))] (gd [decide (0 ≤ p1.2),decide (p1.2 < (a0.length : Int))] ((M.Qb a0 ((a0.getD p1.2.toNat default).Zl) ((a0.getD p1.2.toNat default).QI)).bind fun r4 => gd [decide (0 ≤ p1.2),decide (p1.2 < (a0.length : Int))] (gd [guardB (!((decide (r4 < 0)) || (decide (r4 ≥ (a0.length : Int))))) (decide (0 ≤ r4)),guardB (!((decide (r4 < 0)) || (decide (r4 ≥ (a0.length : Int))))) (decide (r4 < (((p1.1.set (0 + p1.2.toNat) true).length : Nat) : Int)))] (bif ((decide (r4 < 0)) || (decide (r4 ≥ (a0.length : Int)))) || ((p1.1.set (0 + p1.2.toNat) true).getD (0 + r4.toNat) default) then (some (.inr (.inr ([] : List ZY)))) else ((gc (!((a0.getD r4.toNat default).Z1)) (M.JI (a0.getD r4.toNat default))).bind fun r5 => gd [decide (0 ≤ r4),decide (r4 < (a0.length : Int)),guardB (!((a0.getD r4.toNat default).Z1)) (decide (0 ≤ r4)),guardB (!((a0.getD r4.toNat default).Z1)) (decide (r4 < (a0.length : Int)))] (bif (!((a0.getD r4.toNat default).Z1)) && (!r5) then ((M.Wg ((a0.getD r4.toNat default).ZU) ((a0.getD p1.2.toNat default).QI)).bind fun r6 => gd [decide (0 ≤ r4),decide (r4 < (a0.length : Int))] (some (.inr (.inr r6)))) else (some (.inl (p1.1.set (0 + p1.2.toNat) true,r4)))))))))) else (some (.inr (.inl p1.2))))
noncomputable def M.Wh (a0 : List Z3) (a1 : Int) : Option (List ZY) :=
 gd [decide (0 ≤ (a0.length : Int)),decide ((a0.length : Int) ≤ (a0.length : Int)),decide ((a0.length : Int).toNat * 1 ≤ 140737488355328),decide ((a0.length : Int).toNat ≤ 140737488355328)] ((loopM (M.Jx a0) (List.replicate ((a0.length : Int).toNat) false,a1)).bind fun y7 => Sum.elim (fun g8 => gd [decide (0 ≤ g8),decide (g8 < (a0.length : Int))] (bif (a0.getD g8.toNat default).Z1 then (some ([] : List ZY)) else (gd [decide (0 ≤ g8),decide (g8 < (a0.length : Int))] (some ((a0.getD g8.toNat default).ZU))))) (fun y9 => some y9) y7)
noncomputable def M.Z0 (a0 : List Vz) (a1 : Vz) (p1 : Int) : Option (Int ⊕ (Unit ⊕ Int)) :=
 bif decide (p1 < (a0.length : Int)) then (gd [decide (0 ≤ p1),decide (p1 < (a0.length : Int))] (bif ((a1.UB == ((a0.getD p1.toNat default).UB)) && ((a1.ZH == ((a0.getD p1.toNat default).ZH)) && true)) then (some (.inr (.inr p1))) else (some (.inl (wr .i64 (p1 + 1)))))) else (some (.inr (.inl ())))
noncomputable def M.Z7 (a0 : List Vz) (a1 : Vz) : Option Int :=
 (loopM (M.Z0 a0 a1) 0).bind fun y3 => Sum.elim (fun _ => some (-1)) (fun y5 => some y5) y3
noncomputable def M.ZP (a0 : List Vz) (a1 : Vz) : Option Bool :=
 (M.Z7 a0 a1).bind fun r1 => some (decide (r1 ≥ 0))
noncomputable def M.YK (a0 : XU) (a1 : Int) (a2 : Int) (p1 : Int) : Option (Int ⊕ (Unit ⊕ Int)) :=
 bif decide (p1 < (a0.X9.Xa.length : Int)) then (gd [decide (0 ≤ p1),decide (p1 < (a0.X9.Xa.length : Int))] ((M.ZP ((a0.X9.Xa.getD p1.toNat default).ZR) (⟨a1,a2⟩ : Vz)).bind fun r3 => bif r3 then (some (.inr (.inr p1))) else (some (.inl (wr .i64 (p1 + 1)))))) else (some (.inr (.inl ())))
noncomputable def M.Y6 (a0 : XU) (a1 : Int) (a2 : Int) : Option Int :=
 (loopM (M.YK a0 a1 a2) 0).bind fun y4 => Sum.elim (fun _ => some (-1)) (fun y6 => some y6) y4
noncomputable def M.XM (a0 : List Int) (a1 : Int) (p1 : Int) : Option (Int ⊕ (Unit ⊕ Int)) :=
 bif decide (p1 < (a0.length : Int)) then (gd [decide (0 ≤ p1),decide (p1 < (a0.length : Int))] (bif a1 == (a0.getD p1.toNat default) then (some (.inr (.inr p1))) else (some (.inl (wr .i64 (p1 + 1)))))) else (some (.inr (.inl ())))
noncomputable def M.XK (a0 : List Int) (a1 : Int) : Option Int :=
 (loopM (M.XM a0 a1) 0).bind fun y3 => Sum.elim (fun _ => some (-1)) (fun y5 => some y5) y3
noncomputable def M.Vu (a0 : XU) (a1 : Int) (a2 : Int) : Option Int :=
 (M.Y6 a0 a1 a2).bind fun r1 => bif decide (r1 < 0) then (some (-1)) else ((M.XK a0.X9.JP r1).bind fun r2 => some r2)
noncomputable def M.XC (a0 : List Int) (a1 : Int) : Option Bool :=
 (M.XK a0 a1).bind fun r1 => some (decide (r1 ≥ 0))
noncomputable def M.Ud (a0 : XU) (a1 : Int) (a2 : Int) : Option Bool :=
 (M.Y6 a0 a1 a2).bind fun r1 => bif decide (r1 < 0) then (some false) else ((M.Vu a0 a1 a2).bind fun r2 => (gc (!(decide (r2 < 0))) (M.XC a0.Jp r2)).bind fun r3 => some ((decide (r2 < 0)) || (!r3)))
noncomputable def M.Ja (a0 : Int) : Option Bool :=
 some (a0 != a0)
noncomputable def M.YF (a0 : Int) (a1 : Int) : Option Int :=
 (M.Ja a0).bind fun r1 => (M.Ja a1).bind fun r2 => bif r1 then (bif r2 then (some 0) else (some (-1))) else (bif r2 then (some 1) else (bif decide (a0 < a1) then (some (-1)) else (bif decide (a0 > a1) then (some 1) else (some 0))))
noncomputable def M.YV (a0 : Int) : Option Bool :=
 some (a0 != a0)
noncomputable def M.Ym (a0 : Int) (a1 : Int) : Option Int :=
 (M.YV a0).bind fun r1 => (M.YV a1).bind fun r2 => bif r1 then (bif r2 then (some 0) else (some (-1))) else (bif r2 then (some 1) else (bif decide (a0 < a1) then (some (-1)) else (bif decide (a0 > a1) then (some 1) else (some 0))))
noncomputable def M.QP (a0 : List Int) (p1 : Int) : Option (Int ⊕ (Unit ⊕ Int)) :=
 bif decide (p1 < (a0.length : Int)) then (gd [decide (0 ≤ p1),decide (p1 < (a0.length : Int))] (bif (a0.getD p1.toNat default) != 0 then (some (.inr (.inr (a0.getD p1.toNat default)))) else (some (.inl (wr .i64 (p1 + 1)))))) else (some (.inr (.inl ())))
noncomputable def M.V4 (a0 : List Int) : Option Int :=
 (loopM (M.QP a0) 0).bind fun y3 => Sum.elim (fun _ => some 0) (fun y5 => some y5) y3
noncomputable def M.JJ (a0 : ZY) (a1 : ZY) : Option Int :=
 (M.YF a0.ZH a1.ZH).bind fun r1 => (M.Ym a0.Zn a1.Zn).bind fun r2 => (M.V4 ([r1,r2] : List Int)).bind fun r3 => some r3
noncomputable def M.XD (a0 : List ZY) : Option (List ZY) :=
 sortM M.JJ a0
noncomputable def M.Xh (p3 : (List ZY) × Int × Int) (p5 : Int × (List ZY)) : Option (((List ZY) × Int × Int) ⊕ (Int × (List ZY))) :=
 some (.inl (p5.2,p5.1,wr .i64 (p3.2.2 + 1)))
noncomputable def M.Xi (a0 : List ZY) (p1 : Int) (p3 : (List ZY) × Int × Int) : Option (((List ZY) × Int × Int) ⊕ (Int × (List ZY))) :=
 bif decide (p3.2.2 < ((a0.length - p1.toNat : Nat) : Int)) then (gd [decide (0 ≤ p3.2.2),decide (p3.2.2 < ((a0.length - p1.toNat : Nat) : Int)),decide (0 ≤ (wr .i64 (p3.2.2 - 1))),decide ((wr .i64 (p3.2.2 - 1)) < ((a0.length - p1.toNat : Nat) : Int))] (bif !((((p3.1.getD ((0 + p1.toNat) + p3.2.2.toNat) default).ZH) == ((p3.1.getD ((0 + p1.toNat) + (wr .i64 (p3.2.2 - 1)).toNat) default).ZH)) && ((((p3.1.getD ((0 + p1.toNat) + p3.2.2.toNat) default).Zn) == ((p3.1.getD ((0 + p1.toNat) + (wr .i64 (p3.2.2 - 1)).toNat) default).Zn)) && true)) then (gd [decide (0 ≤ p3.2.2),decide (p3.2.2 < ((a0.length - p1.toNat : Nat) : Int)),decide (0 ≤ p3.2.1),decide (p3.2.1 < (p3.1.length : Int))] (M.Xh p3 (wr .i64 (p3.2.1 + 1),p3.1.set (0 + p3.2.1.toNat) (p3.1.getD ((0 + p1.toNat) + p3.2.2.toNat) default)))) else (M.Xh p3 (p3.2.1,p3.1)))) else (some (.inr (p3.2.1,p3.1)))
noncomputable def M.ZZ (a0 : List ZY) (p1 : Int) : Option (Int ⊕ (Unit ⊕ ((List ZY) × Nat))) :=
 bif decide (p1 < (a0.length : Int)) then (gd [decide (0 ≤ p1),decide (p1 < (a0.length : Int)),decide (0 ≤ (wr .i64 (p1 - 1))),decide ((wr .i64 (p1 - 1)) < (a0.length : Int))] (bif ((((a0.getD (0 + p1.toNat) default).ZH) == ((a0.getD (0 + (wr .i64 (p1 - 1)).toNat) default).ZH)) && ((((a0.getD (0 + p1.toNat) default).Zn) == ((a0.getD (0 + (wr .i64 (p1 - 1)).toNat) default).Zn)) && true)) then (gd [decide (0 ≤ p1),decide (p1 ≤ (a0.length : Int))] ((loopM (M.Xi a0 p1) (a0,p1,1)).bind fun y6 => gd [decide (0 ≤ y6.1),decide (y6.1 ≤ (y6.2.length : Int))] (gd [decide (0 ≤ y6.1),decide (y6.1 ≤ (((clrL y6.2 (0 + y6.1.toNat) (y6.2.length - y6.1.toNat) (⟨0,0⟩ : ZY)).length : Nat) : Int))] (gd [decide ((clrL y6.2 (0 + y6.1.toNat) (y6.2.length - y6.1.toNat) (⟨0,0⟩ : ZY)).length = a0.length)] (some (.inr (.inr (clrL y6.2 (0 + y6.1.toNat) (y6.2.length - y6.1.toNat) (⟨0,0⟩ : ZY),y6.1.toNat - 0)))))))) else (some (.inl (wr .i64 (p1 + 1)))))) else (some (.inr (.inl ())))
noncomputable def M.XN (a0 : List ZY) : Option ((List ZY) × Nat) :=
 bif decide ((a0.length : Int) < 2) then (some (a0,a0.length)) else ((loopM (M.ZZ a0) 1).bind fun y7 => Sum.elim (fun _ => some (a0,a0.length)) (fun y9 => some y9) y7)
noncomputable def M.Q7 (p2 : (List ZY) × Int) (p4 : (List ZY)) : Option (((List ZY) × Int) ⊕ (List ZY)) :=
 some (.inl (p4,wr .i64 (p2.2 + 1)))
noncomputable def M.Jy (a0 : XU) (a2 : Int) (r1 : (List ZY)) (p2 : (List ZY) × Int) : Option (((List ZY) × Int) ⊕ (List ZY)) :=
 bif decide (p2.2 < (r1.length : Int)) then (gd [decide (0 ≤ p2.2),decide (p2.2 < (r1.length : Int))] ((M.Ud a0 a2 ((r1.getD p2.2.toNat default).ZH)).bind fun r5 => bif r5 then (gd [decide ((p2.1.length + 1) * 16 ≤ 140737488355328)] (M.Q7 p2 (p2.1 ++ [r1.getD p2.2.toNat default]))) else (M.Q7 p2 p2.1))) else (some (.inr p2.1))
noncomputable def M.Wi (a0 : XU) (a1 : List Z3) (a2 : Int) (a3 : Int) : Option (List ZY) :=
 bif (decide (a3 < 0)) || (decide (a3 ≥ (a1.length : Int))) then (some ([] : List ZY)) else ((M.Wh a1 a3).bind fun r1 => (loopM (M.Jy a0 a2 r1) (([] : List ZY),0)).bind fun y6 => (M.XD y6).bind fun r7 => gd [decide (r7.length = y6.length)] ((M.XN r7).bind fun r8 => gd [decide (r8.1.length = r7.length),decide (r8.2 ≤ r8.1.length)] (gd [decide (r8.2 ≤ r8.1.length)] (some (r8.1.take r8.2)))))
noncomputable def M.VM (a0 : XU) (a1 : List Z3) (a2 : Int) (p1 : (List YJ) × Int) : Option (((List YJ) × Int) ⊕ (List YJ)) :=
 bif decide (p1.2 < (a1.length : Int)) then (gd [decide (0 ≤ p1.2),decide (p1.2 < (a1.length : Int))] ((M.Wi a0 a1 a2 p1.2).bind fun r3 => gd [decide ((p1.1.length + 1) * 48 ≤ 140737488355328)] (some (.inl (p1.1 ++ [(⟨(a1.getD p1.2.toNat default).Zl,r3,(a1.getD p1.2.toNat default).Z1⟩ : YJ)],wr .i64 (p1.2 + 1)))))) else (some (.inr p1.1))
noncomputable def M.WT (a0 : XU) (a1 : List Z3) (a2 : Int) : Option (List YJ) :=
 (loopM (M.VM a0 a1 a2) (([] : List YJ),0)).bind fun y4 => some y4
noncomputable def M.JK (a0 : XU) (a1 : Int) (a2 : Int) (p1 : Int) (p3 : Int) : Option (Int ⊕ (Unit ⊕ Int)) :=
 gd [decide (0 ≤ p1),decide (p1 < (a0.X9.Xa.length : Int))] (bif decide (p3 < (((a0.X9.Xa.getD p1.toNat default).ZR).length : Int)) then (gd [decide (0 ≤ p1),decide (p1 < (a0.X9.Xa.length : Int)),decide (0 ≤ p3),decide (p3 < (((a0.X9.Xa.getD p1.toNat default).ZR).length : Int))] (bif ((((((a0.X9.Xa.getD p1.toNat default).ZR).getD p3.toNat default).UB) == a1) && ((((((a0.X9.Xa.getD p1.toNat default).ZR).getD p3.toNat default).ZH) == a2) && true)) then (some (.inr (.inr p1))) else (some (.inl (wr .i64 (p3 + 1)))))) else (some (.inr (.inl ()))))
noncomputable def M.JL (a0 : XU) (a1 : Int) (a2 : Int) (p1 : Int) : Option (Int ⊕ (Unit ⊕ Int)) :=
 bif decide (p1 < (a0.X9.Xa.length : Int)) then ((loopM (M.JK a0 a1 a2 p1) 0).bind fun y5 => Sum.elim (fun _ => some (.inl (wr .i64 (p1 + 1)))) (fun y7 => some (.inr (.inr y7))) y5) else (some (.inr (.inl ())))
noncomputable def M.JT (a0 : XU) (a1 : Int) (a2 : Int) : Option Int :=
 (loopM (M.JL a0 a1 a2) 0).bind fun y8 => Sum.elim (fun _ => some (-1)) (fun y10 => some y10) y8
noncomputable def M.J2 (a0 : XU) (r1 : Int) (p2 : Int) : Option (Int ⊕ (Unit ⊕ Int)) :=
 bif decide (p2 < (a0.X9.JP.length : Int)) then (gd [guardB (decide (r1 ≥ 0)) (decide (0 ≤ p2)),guardB (decide (r1 ≥ 0)) (decide (p2 < (a0.X9.JP.length : Int)))] (bif (decide (r1 ≥ 0)) && ((a0.X9.JP.getD p2.toNat default) == r1) then (some (.inr (.inr p2))) else (some (.inl (wr .i64 (p2 + 1)))))) else (some (.inr (.inl ())))
noncomputable def M.WO (a0 : XU) (a1 : Int) (a2 : Int) : Option Int :=
 (M.JT a0 a1 a2).bind fun r1 => (loopM (M.J2 a0 r1) 0).bind fun y4 => Sum.elim (fun _ => some (-1)) (fun y6 => some y6) y4
noncomputable def M.WB (a0 : XU) (r2 : Int) (p3 : Int) : Option (Int ⊕ (Unit ⊕ Bool)) :=
 bif decide (p3 < (a0.Jp.length : Int)) then (gd [decide (0 ≤ p3),decide (p3 < (a0.Jp.length : Int))] (bif (a0.Jp.getD p3.toNat default) == r2 then (some (.inr (.inr false))) else (some (.inl (wr .i64 (p3 + 1)))))) else (some (.inr (.inl ())))
noncomputable def M.Gh (a0 : XU) (a1 : Int) (a2 : Int) : Option Bool :=
 (M.JT a0 a1 a2).bind fun r1 => bif decide (r1 < 0) then (some false) else ((M.WO a0 a1 a2).bind fun r2 => (loopM (M.WB a0 r2) 0).bind fun y5 => Sum.elim (fun _ => some true) (fun y7 => some y7) y5)
noncomputable def M.Wj (a0 : Int) : Option Bool :=
 some (((decide (65 ≤ a0)) && (decide (a0 ≤ 90))) || ((decide (97 ≤ a0)) && (decide (a0 ≤ 122))))
noncomputable def M.UD (a0 : Int) : Option Bool :=
 some ((decide (48 ≤ a0)) && (decide (a0 ≤ 57)))
noncomputable def M.W0 (a0 : ByteArray) (p2 : Int) : Option (Int ⊕ Unit) :=
 bif decide (p2 < (a0.size : Int)) then (gd [decide (0 ≤ p2),decide (p2 < (a0.size : Int))] ((M.Wj (byteAt a0 p2)).bind fun r4 => (gc (!r4) (M.UD (byteAt a0 p2))).bind fun r5 => bif (((((!r4) && (!r5)) && ((byteAt a0 p2) != 45)) && ((byteAt a0 p2) != 95)) && ((byteAt a0 p2) != 47)) && ((byteAt a0 p2) != 46) then none else (some (.inl (wr .i64 (p2 + 1)))))) else (some (.inr ()))
noncomputable def M.Um (a0 : ByteArray) : Option Bool :=
 (gc (!((decide ((a0.size : Int) < 1)) || (decide ((a0.size : Int) > 15)))) (M.Wj (byteAt a0 0))).bind fun r1 => gd [guardB (!((decide ((a0.size : Int) < 1)) || (decide ((a0.size : Int) > 15)))) (decide (0 ≤ 0)),guardB (!((decide ((a0.size : Int) < 1)) || (decide ((a0.size : Int) > 15)))) (decide (0 < (a0.size : Int)))] (bif ((decide ((a0.size : Int) < 1)) || (decide ((a0.size : Int) > 15))) || (!r1) then none else ((loopM (M.W0 a0) 1).bind fun y6 => some true))
noncomputable def M.YN (a0 : Int) (a1 : Int) (a2 : Int) : Option Bool :=
 some ((decide (a1 ≤ a0)) && (decide (a0 ≤ a2)))
noncomputable def M.Jm (a0 : ZA) (b0 : ByteArray) : Option Bool :=
 some (strEq a0.XB b0)
noncomputable def M.ZJ (a0 : List ZA) (a1c0 : ByteArray) (p1 : Int) : Option (Int ⊕ (Unit ⊕ Int)) :=
 bif decide (p1 < (a0.length : Int)) then ((M.Jm (a0.getD p1.toNat default) a1c0).bind fun r3 => gd [decide (0 ≤ p1),decide (p1 < (a0.length : Int))] (bif r3 then (some (.inr (.inr p1))) else (some (.inl (wr .i64 (p1 + 1)))))) else (some (.inr (.inl ())))
noncomputable def M.ZD (a0 : List ZA) (a1c0 : ByteArray) : Option Int :=
 (loopM (M.ZJ a0 a1c0) 0).bind fun y4 => Sum.elim (fun _ => some (-1)) (fun y6 => some y6) y4
noncomputable def M.Vd (a0 : Zh) (a1 : ByteArray) : Option Int :=
 (M.ZD a0.Zc a1).bind fun r1 => some r1
noncomputable def M.Qn (a0 : ZA) : Option Bool :=
 (M.YN a0.ZL 0 32).bind fun r1 => (gc (!(!r1)) (M.YN a0.XH 0 4094)).bind fun r2 => (gc (!((!r1) || (!r2))) (M.YN a0.ZaF 0 2)).bind fun r3 => bif ((!r1) || (!r2)) || (!r3) then none else (bif (a0.ZL == 0) && (((((((a0.Zn != 0) || (a0.XH != 0)) || (a0.ZaF != 0)) || a0.Yw) || a0.YC) || (!strEq a0.Ww (⟨#[]⟩ : ByteArray))) || (!strEq a0.Qr (⟨#[]⟩ : ByteArray))) then none else (bif (a0.ZL != 0) && (a0.Zn == 0) then none else (bif a0.Yw then none else (some ((a0.WI == 0) && (a0.Zc2 == 0))))))
noncomputable def M.YR (p1 : Int) (p6 : Int) : Option (Int ⊕ Unit) :=
 bif decide (p6 < ((p1.toNat - 0 : Nat) : Int)) then none else (some (.inr ()))
noncomputable def M.YS (a0 : Zh) (p1 : Int) : Option (Int ⊕ Unit) :=
 bif decide (p1 < (a0.Zc.length : Int)) then (gd [decide (0 ≤ p1),decide (p1 < (a0.Zc.length : Int))] ((M.Um ((a0.Zc.getD p1.toNat default).XB)).bind fun r3 => bif !r3 then none else ((M.Vd a0 ((a0.Zc.getD p1.toNat default).XB)).bind fun r4 => bif decide (r4 < p1) then none else ((M.Qn (a0.Zc.getD p1.toNat default)).bind fun r5 => bif !r5 then none else (gd [decide (0 ≤ p1),decide (p1 ≤ (a0.Zc.length : Int))] ((loopM (M.YR p1) 0).bind fun y8 => some (.inl (wr .i64 (p1 + 1))))))))) else (some (.inr ()))
noncomputable def M.Y3 (a0 : Zh) : Option Int :=
 bif decide ((a0.Zc.length : Int) > 8) then none else ((loopM (M.YS a0) 0).bind fun y9 => some 0)
noncomputable def M.YH (a0 : Zh) (p1 : Int) : Option (Int ⊕ Unit) :=
 bif decide (p1 < (a0.YM.length : Int)) then none else (some (.inr ()))
noncomputable def M.YO (a0 : Zh) : Option Int :=
 bif decide ((a0.YM.length : Int) > 8) then none else ((loopM (M.YH a0) 0).bind fun y3 => some 0)
noncomputable def M.Y7 (a0 : Zh) (p1 : Int) : Option (Int ⊕ Unit) :=
 bif decide (p1 < (a0.XJ.length : Int)) then none else (some (.inr ()))
noncomputable def M.Qo (a0 : Zh) : Option Int :=
 bif decide ((a0.XJ.length : Int) > 8) then none else ((loopM (M.Y7 a0) 0).bind fun y3 => some 0)
noncomputable def M.Jz (a0 : Zh) (p1 : Int) : Option (Int ⊕ Unit) :=
 bif decide (p1 < (a0.YW.length : Int)) then none else (some (.inr ()))
noncomputable def M.Ve (a0 : Zh) : Option Int :=
 bif decide ((a0.YW.length : Int) > 8) then none else ((loopM (M.Jz a0) 0).bind fun y3 => some 0)
noncomputable def M.JZ (a0 : Zh) (p1 : Int) : Option (Int ⊕ Unit) :=
 bif decide (p1 < (a0.Xc.length : Int)) then none else (some (.inr ()))
noncomputable def M.VN (a0 : Zh) : Option Int :=
 bif decide ((a0.Xc.length : Int) > 8) then none else ((loopM (M.JZ a0) 0).bind fun y3 => some 0)
noncomputable def M.Un (_a0 : Zh) (_a1 : ByteArray) : Option Int :=
 none
noncomputable def M.Qu (a0 : Zh) (p1 : Int) : Option (Int ⊕ Unit) :=
 bif decide (p1 < (a0.Zc.length : Int)) then (gd [decide (0 ≤ p1),decide (p1 < (a0.Zc.length : Int))] ((gc (!strEq ((a0.Zc.getD p1.toNat default).Ww) (⟨#[]⟩ : ByteArray)) (M.Un a0 ((a0.Zc.getD p1.toNat default).Ww))).bind fun r3 => (gc ((!((!strEq ((a0.Zc.getD p1.toNat default).Ww) (⟨#[]⟩ : ByteArray)) && (decide (r3 < 0)))) && (!strEq ((a0.Zc.getD p1.toNat default).Qr) (⟨#[]⟩ : ByteArray))) (M.Un a0 ((a0.Zc.getD p1.toNat default).Qr))).bind fun r4 => bif ((!strEq ((a0.Zc.getD p1.toNat default).Ww) (⟨#[]⟩ : ByteArray)) && (decide (r3 < 0))) || ((!strEq ((a0.Zc.getD p1.toNat default).Qr) (⟨#[]⟩ : ByteArray)) && (decide (r4 < 0))) then none else (some (.inl (wr .i64 (p1 + 1)))))) else (some (.inr ()))
noncomputable def M.QW (a0 : Zh) : Option Int :=
 (loopM (M.Qu a0) 0).bind fun y5 => some 0
noncomputable def M.UE (a0 : ZM) : Option Bool :=
 (gc ((decide (a0.ZL ≥ 0)) && (decide (a0.ZL ≤ 32))) (M.JS a0.ZL)).bind fun r1 => some (((decide (a0.ZL ≥ 0)) && (decide (a0.ZL ≤ 32))) && ((bitD .andNot .u32 a0.Zn r1) == 0))
noncomputable def M.Vf (a0 : ZA) (b0 : Int) : Option Bool :=
 some ((a0.ZL != 0) && (a0.Zn == b0))
noncomputable def M.ZK (a0 : List ZA) (a1c0 : Int) (p1 : Int) : Option (Int ⊕ (Unit ⊕ Int)) :=
 bif decide (p1 < (a0.length : Int)) then ((M.Vf (a0.getD p1.toNat default) a1c0).bind fun r3 => gd [decide (0 ≤ p1),decide (p1 < (a0.length : Int))] (bif r3 then (some (.inr (.inr p1))) else (some (.inl (wr .i64 (p1 + 1)))))) else (some (.inr (.inl ())))
noncomputable def M.ZI (a0 : List ZA) (a1c0 : Int) : Option Int :=
 (loopM (M.ZK a0 a1c0) 0).bind fun y4 => Sum.elim (fun _ => some (-1)) (fun y6 => some y6) y4
noncomputable def M.Wc (a0 : Zh) (a1 : Int) : Option Int :=
 (M.ZI a0.Zc a1).bind fun r1 => some r1
noncomputable def M.Yx (p1 : Int × Int) (p3 : Int) : Option ((Int × Int) ⊕ Int) :=
 some (.inl (p3,wr .i64 (p1.2 + 1)))
noncomputable def M.QR (a1 : X2) (p1 : Int × Int) : Option ((Int × Int) ⊕ Int) :=
 bif decide (p1.2 < 3) then (gd [decide (0 ≤ p1.2),decide (p1.2 < (([a1.QI != 0,!strEq a1.ZH (⟨#[]⟩ : ByteArray),a1.Z1] : List Bool).length : Int))] (bif ([a1.QI != 0,!strEq a1.ZH (⟨#[]⟩ : ByteArray),a1.Z1] : List Bool).getD p1.2.toNat default then (M.Yx p1 (wr .i64 (p1.1 + 1))) else (M.Yx p1 p1.1))) else (some (.inr p1.1))
noncomputable def M.Jn (a0 : Zh) (a1 : X2) : Option Bool :=
 (loopM (M.QR a1) (0,0)).bind fun y4 => (M.UE a1.Zl).bind fun r5 => (gc ((r5 && (y4 == 1)) && !(a1.QI == 0)) (M.Wc a0 a1.QI)).bind fun r6 => (gc ((r5 && (y4 == 1)) && ((a1.QI == 0) || (decide (r6 < 0)))) (M.YN a1.Z2 1 255)).bind fun r7 => (gc (((r5 && (y4 == 1)) && ((a1.QI == 0) || (decide (r6 < 0)))) && r7) (M.YN a1.UA 0 65535)).bind fun r8 => some ((((r5 && (y4 == 1)) && ((a1.QI == 0) || (decide (r6 < 0)))) && r7) && r8)
noncomputable def M.Qv (p1 : Int) (p5 : Int) : Option (Int ⊕ Unit) :=
 bif decide (p5 < ((p1.toNat - 0 : Nat) : Int)) then none else (some (.inr ()))
noncomputable def M.Y4 (a0 : Zh) (p1 : Int) (_p4 : Unit) : Option (Int ⊕ Unit) :=
 gd [decide (0 ≤ p1),decide (p1 ≤ (a0.Zp.length : Int))] ((loopM (M.Qv p1) 0).bind fun y7 => some (.inl (wr .i64 (p1 + 1))))
noncomputable def M.Qw (a0 : Zh) (p1 : Int) : Option (Int ⊕ Unit) :=
 bif decide (p1 < (a0.Zp.length : Int)) then (gd [decide (0 ≤ p1),decide (p1 < (a0.Zp.length : Int))] ((M.Jn a0 (a0.Zp.getD p1.toNat default)).bind fun r3 => bif !r3 then none else (bif !strEq ((a0.Zp.getD p1.toNat default).ZH) (⟨#[]⟩ : ByteArray) then none else (M.Y4 a0 p1 ())))) else (some (.inr ()))
noncomputable def M.QX (a0 : Zh) : Option Int :=
 bif decide ((a0.Zp.length : Int) > 16) then none else ((loopM (M.Qw a0) 0).bind fun y8 => some 0)
noncomputable def M.Qp (a0 : Zh) : Option Int :=
 bif !a0.Yw.We then (bif ((a0.Yw.Z2 != 0) || (decide ((a0.Yw.Z4.length : Int) > 0))) || (decide ((a0.Yw.Zu.length : Int) > 0)) then none else (some 0)) else none
noncomputable def M.Yk (a0 : Zh) : Option Int :=
 bif !a0.YC.We then (bif (((a0.YC.Z2 != 0) || (!strEq a0.YC.Ww (⟨#[]⟩ : ByteArray))) || (!strEq a0.YC.Qr (⟨#[]⟩ : ByteArray))) || (decide ((a0.YC.Zu.length : Int) > 0)) then none else (some 0)) else none
noncomputable def M.Y5 (a0 : Zh) : Option Int :=
 bif !a0.Xv.We then (bif ((((((a0.Xv.XZ != 0) || (a0.Xv.X0 != 0)) || (decide ((a0.Xv.Zo.length : Int) > 0))) || (decide ((a0.Xv.ZT.length : Int) > 0))) || (decide ((a0.Xv.ZC.length : Int) > 0))) || (decide ((a0.Xv.Zv.length : Int) > 0))) || (decide ((a0.Xv.Zu.length : Int) > 0)) then none else (some 0)) else none
noncomputable def M.Jo (a0 : Zh) : Option Int :=
 (M.Um a0.XB).bind fun r1 => bif !r1 then none else ((M.YN a0.Kq 0 65535).bind fun r2 => bif !r2 then none else (gd [decide (0 ≤ 0),decide (0 < (10 : Int))] ((M.Y3 a0).bind fun r3 => bif r3 != 0 then none else (gd [decide (0 ≤ 1),decide (1 < (10 : Int))] ((M.YO a0).bind fun r4 => bif r4 != 0 then none else (gd [decide (0 ≤ 2),decide (2 < (10 : Int))] ((M.Qo a0).bind fun r5 => bif r5 != 0 then none else (gd [decide (0 ≤ 3),decide (3 < (10 : Int))] ((M.Ve a0).bind fun r6 => bif r6 != 0 then none else (gd [decide (0 ≤ 4),decide (4 < (10 : Int))] ((M.VN a0).bind fun r7 => bif r7 != 0 then none else (gd [decide (0 ≤ 5),decide (5 < (10 : Int))] ((M.QW a0).bind fun r8 => bif r8 != 0 then none else (gd [decide (0 ≤ 6),decide (6 < (10 : Int))] ((M.QX a0).bind fun r9 => bif r9 != 0 then none else (gd [decide (0 ≤ 7),decide (7 < (10 : Int))] ((M.Qp a0).bind fun r10 => bif r10 != 0 then none else (gd [decide (0 ≤ 8),decide (8 < (10 : Int))] ((M.Yk a0).bind fun r11 => bif r11 != 0 then none else (gd [decide (0 ≤ 9),decide (9 < (10 : Int))] ((M.Y5 a0).bind fun r12 => bif r12 != 0 then none else (some 0))))))))))))))))))))))
noncomputable def M.Wk (p1 : Int) (p4 : Int) : Option (Int ⊕ Unit) :=
 bif decide (p4 < ((p1.toNat - 0 : Nat) : Int)) then none else (some (.inr ()))
noncomputable def M.Wl (a0 : ZG) (p1 : Int) : Option (Int ⊕ Unit) :=
 bif decide (p1 < (a0.Ze.length : Int)) then (gd [decide (0 ≤ p1),decide (p1 < (a0.Ze.length : Int))] ((M.Jo (a0.Ze.getD p1.toNat default)).bind fun r3 => bif r3 != 0 then none else (gd [decide (0 ≤ p1),decide (p1 ≤ (a0.Ze.length : Int))] ((loopM (M.Wk p1) 0).bind fun y6 => some (.inl (wr .i64 (p1 + 1))))))) else (some (.inr ()))
noncomputable def M.W1 (a0 : ZG) : Option Int :=
 bif decide ((a0.Ze.length : Int) > 8) then none else ((loopM (M.Wl a0) 0).bind fun y7 => some 0)
noncomputable def M.Wy (a0 : Int) (a1 : Int) : Option ZM :=
 (M.JS a1).bind fun r1 => (M.Jw a1).bind fun r2 => some (⟨bitD .and .u32 a0 r1,r2⟩ : ZM)
noncomputable def M.JA (i : Int) (p : (List Zi) × (List (Z9 × Int)) × Int) (q : (List Zi) × (List (Z9 × Int)) × Int) : Option (((List Zi) × (List (Z9 × Int)) × Int) ⊕ ((List Zi) × (List (Z9 × Int)))) :=
 gd [decide (0 ≤ q.2.2),decide (q.2.2 < (q.1.length : Int)),decide (((q.1.getD (0 + q.2.2.toNat) default).ZR.length + 1) * 16 ≤ 140737488355328)] (some (.inl (q.1.set (0 + q.2.2.toNat) ⟨(q.1.getD (0 + q.2.2.toNat) default).Zl,(q.1.getD (0 + q.2.2.toNat) default).XH,(q.1.getD (0 + q.2.2.toNat) default).ZR ++ [⟨i,p.2.2⟩]⟩,q.2.1,wr .i64 (p.2.2 + 1))))
noncomputable def M.Vg (a0 : ZG) (i : Int) (p : (List Zi) × (List (Z9 × Int)) × Int) : Option (((List Zi) × (List (Z9 × Int)) × Int) ⊕ ((List Zi) × (List (Z9 × Int)))) :=
 bif decide (p.2.2 < (((a0.Ze.getD i.toNat default).Zc).length : Int)) then (gd [decide (0 ≤ p.2.2),decide (p.2.2 < (((a0.Ze.getD i.toNat default).Zc).length : Int))] (bif (((a0.Ze.getD i.toNat default).Zc.getD p.2.2.toNat default).ZL == 0) || ((a0.Ze.getD i.toNat default).Zc.getD p.2.2.toNat default).Jp then (some (.inl (p.1,p.2.1,wr .i64 (p.2.2 + 1)))) else ((M.Wy ((a0.Ze.getD i.toNat default).Zc.getD p.2.2.toNat default).Zn ((a0.Ze.getD i.toNat default).Zc.getD p.2.2.toNat default).ZL).bind fun r => bif !(lkM (topoKeyEq ⟨r,((a0.Ze.getD i.toNat default).Zc.getD p.2.2.toNat default).XH⟩) p.2.1).2 then (gd [decide ((p.1.length + 1) * 48 ≤ 140737488355328)] (M.JA i p (p.1 ++ [⟨r,((a0.Ze.getD i.toNat default).Zc.getD p.2.2.toNat default).XH,[]⟩],p.2.1 ++ [(⟨r,((a0.Ze.getD i.toNat default).Zc.getD p.2.2.toNat default).XH⟩,(p.1.length : Int))],(p.1.length : Int)))) else (M.JA i p (p.1,p.2.1,(lkM (topoKeyEq ⟨r,((a0.Ze.getD i.toNat default).Zc.getD p.2.2.toNat default).XH⟩) p.2.1).1))))) else (some (.inr (p.1,p.2.1)))
noncomputable def M.Vh (a0 : ZG) (p : (List Zi) × (List (Z9 × Int)) × Int) : Option (((List Zi) × (List (Z9 × Int)) × Int) ⊕ (List Zi)) :=
 bif decide (p.2.2 < (a0.Ze.length : Int)) then (gd [decide (0 ≤ p.2.2),decide (p.2.2 < (a0.Ze.length : Int))] ((loopM (M.Vg a0 p.2.2) (p.1,p.2.1,0)).bind fun y => some (.inl (y.1,y.2,wr .i64 (p.2.2 + 1))))) else (some (.inr p.1))
noncomputable def M.Wz (a0 : ZG) : Option (List Zi) :=
 (loopM (M.Vh a0) ([],[],0)).bind fun y => some y
noncomputable def M.VO (a0 : ZM) (a1 : ZM) : Option Int :=
 (M.Ym a0.Zn a1.Zn).bind fun r1 => bif r1 != 0 then (some r1) else ((M.YF a0.ZL a1.ZL).bind fun r2 => some r2)
noncomputable def M.Vi (a0 : Zi) (a1 : Zi) : Option Int :=
 (M.VO a0.Zl a1.Zl).bind fun r1 => (M.YF a0.XH a1.XH).bind fun r2 => (M.V4 ([r1,r2] : List Int)).bind fun r3 => some r3
noncomputable def M.XG (a0 : List Zi) : Option (List Zi) :=
 sortU M.Vi a0
noncomputable def M.Wd (p4 : Int) (_p6 : Unit) : Option (Int ⊕ Unit) :=
 some (.inl (wr .i64 (p4 + 1)))
noncomputable def M.WC (r3 : (List Zi)) (p4 : Int) : Option (Int ⊕ Unit) :=
 bif decide (p4 < (r3.length : Int)) then (gd [decide (0 ≤ p4),decide (p4 < (r3.length : Int))] (bif decide ((((r3.getD p4.toNat default).ZR).length : Int) ≥ 2) then none else (M.Wd p4 ()))) else (some (.inr ()))
noncomputable def M.UF (a0 : ZG) : Option (JO × Int) :=
 (M.W1 a0).bind fun r1 => bif r1 != 0 then none else ((M.Wz a0).bind fun r2 => (M.XG r2).bind fun r3 => gd [decide (r3.length = r2.length)] ((loopM (M.WC r3) 0).bind fun y7 => some ((⟨r3,([] : List Int)⟩ : JO),0)))
noncomputable def M.XS (a0 : List Zh) : Option (List Zh) :=
 gd [decide (0 = 0) || decide (0 < a0.length),decide ((0 + a0.length) * 448 ≤ 140737488355328)] (some a0)
noncomputable def M.Xq (a0 : List ZA) : Option (List ZA) :=
 gd [decide (0 = 0) || decide (0 < a0.length),decide ((0 + a0.length) * 112 ≤ 140737488355328)] (some a0)
noncomputable def M.Xj (a0 : List ZW) : Option (List ZW) :=
 gd [decide (0 = 0) || decide (0 < a0.length),decide ((0 + a0.length) * 40 ≤ 140737488355328)] (some a0)
noncomputable def M.Xz (a0 : List Yl) : Option (List Yl) :=
 gd [decide (0 = 0) || decide (0 < a0.length),decide ((0 + a0.length) * 40 ≤ 140737488355328)] (some a0)
noncomputable def M.X8 (a0 : List US) : Option (List US) :=
 gd [decide (0 = 0) || decide (0 < a0.length),decide ((0 + a0.length) * 40 ≤ 140737488355328)] (some a0)
noncomputable def M.Xd (a0 : List Qx) : Option (List Qx) :=
 gd [decide (0 = 0) || decide (0 < a0.length),decide ((0 + a0.length) * 64 ≤ 140737488355328)] (some a0)
noncomputable def M.Xe (a0 : List X2) : Option (List X2) :=
 gd [decide (0 = 0) || decide (0 < a0.length),decide ((0 + a0.length) * 64 ≤ 140737488355328)] (some a0)
noncomputable def M.Xr (a0 : List VY) : Option (List VY) :=
 gd [decide (0 = 0) || decide (0 < a0.length),decide ((0 + a0.length) * 24 ≤ 140737488355328)] (some a0)
noncomputable def M.Z6 (a0 : List Qt) : Option (List Qt) :=
 gd [decide (0 = 0) || decide (0 < a0.length),decide ((0 + a0.length) * 48 ≤ 140737488355328)] (some a0)
noncomputable def M.XA (a0 : List Vq) : Option (List Vq) :=
 gd [decide (0 = 0) || decide (0 < a0.length),decide ((0 + a0.length) * 48 ≤ 140737488355328)] (some a0)
noncomputable def M.XT (a0 : List ZM) : Option (List ZM) :=
 gd [decide (0 = 0) || decide (0 < a0.length),decide ((0 + a0.length) * 16 ≤ 140737488355328)] (some a0)
noncomputable def M.Xs (a0 : List VZ) : Option (List VZ) :=
 gd [decide (0 = 0) || decide (0 < a0.length),decide ((0 + a0.length) * 24 ≤ 140737488355328)] (some a0)
noncomputable def M.Xt (a0 : List V0) : Option (List V0) :=
 gd [decide (0 = 0) || decide (0 < a0.length),decide ((0 + a0.length) * 40 ≤ 140737488355328)] (some a0)
noncomputable def M.JB (r2 : (List ZW)) (p3 : Int) : Option (Int ⊕ Unit) :=
 bif decide (p3 < (r2.length : Int)) then none else (some (.inr ()))
noncomputable def M.JC (r6 : (List Yl)) (p7 : Int) : Option (Int ⊕ Unit) :=
 bif decide (p7 < (r6.length : Int)) then none else (some (.inr ()))
noncomputable def M.JD (r10 : (List US)) (p11 : Int) : Option (Int ⊕ Unit) :=
 bif decide (p11 < (r10.length : Int)) then none else (some (.inr ()))
noncomputable def M.Vj (a0 : Zh) : Option Zh :=
 (M.Xq a0.Zc).bind fun r1 => (M.Xj a0.YM).bind fun r2 => (loopM (M.JB r2) 0).bind fun y5 => (M.Xz a0.XJ).bind fun r6 => (loopM (M.JC r6) 0).bind fun y9 => (M.X8 a0.YW).bind fun r10 => (loopM (M.JD r10) 0).bind fun y13 => (M.Xd a0.Xc).bind fun r14 => (M.Xe a0.Zp).bind fun r15 => (M.Xr a0.Yw.Z4).bind fun r16 => (M.Z6 a0.Yw.Zu).bind fun r17 => (M.Z6 a0.YC.Zu).bind fun r18 => (M.XA a0.Xv.Zo).bind fun r19 => (M.XT a0.Xv.ZT).bind fun r20 => (M.Xs a0.Xv.ZC).bind fun r21 => (M.Xt a0.Xv.Zv).bind fun r22 => (M.Z6 a0.Xv.Zu).bind fun r23 => some (⟨a0.XB,a0.Kq,r1,r2,r6,r10,r14,r15,(⟨a0.Yw.We,a0.Yw.Z2,r16,r17⟩ : Wo),(⟨a0.YC.We,a0.YC.Z2,a0.YC.Ww,a0.YC.Qr,r18⟩ : Y9),(⟨a0.Xv.We,a0.Xv.XZ,a0.Xv.X0,r19,r20,r21,r22,r23⟩ : XI)⟩ : Zh)
noncomputable def M.Jb (r1 : (List Zh)) (p2 : (List Zh) × Int) : Option (((List Zh) × Int) ⊕ (List Zh)) :=
 bif decide (p2.2 < (r1.length : Int)) then ((M.Vj (p2.1.getD (0 + p2.2.toNat) default)).bind fun r4 => gd [decide (0 ≤ p2.2),decide (p2.2 < (p2.1.length : Int)),decide (0 ≤ p2.2),decide (p2.2 < (p2.1.length : Int))] (some (.inl (p2.1.set (0 + p2.2.toNat) r4,wr .i64 (p2.2 + 1))))) else (some (.inr p2.1))
noncomputable def M.JU (a0 : ZG) : Option ZG :=
 (M.XS a0.Ze).bind fun r1 => (loopM (M.Jb r1) (r1,0)).bind fun y5 => some (⟨y5⟩ : ZG)
noncomputable def M.Qq (a0 : List Int) : Option (List Int) :=
 gd [decide (0 = 0) || decide (0 < a0.length),decide ((0 + a0.length) * 8 ≤ 140737488355328)] (some a0)
noncomputable def M.W2 (a1 : List Int) (p2 : Int) : Option (Int ⊕ Unit) :=
 bif decide (p2 < (a1.length : Int)) then none else (some (.inr ()))
noncomputable def M.U6 (a0 : ZG) (a1 : List Int) : Option (XU × Int) :=
 (M.UF a0).bind fun r1 => bif r1.2 != 0 then none else (bif decide ((a1.length : Int) > 2) then none else ((loopM (M.W2 a1) 0).bind fun y4 => (M.JU a0).bind fun r5 => (M.Qq a1).bind fun r6 => some ((⟨r5,r1.1,r6⟩ : XU),0)))
noncomputable def M.J3 (p1 : Int × Int) (p3 : Int) : Option ((Int × Int) ⊕ Int) :=
 some (.inl (p3,wr .i64 (p1.2 + 1)))
noncomputable def M.WD (a0 : List YJ) (a1 : Int) (p1 : Int × Int) : Option ((Int × Int) ⊕ Int) :=
 bif decide (p1.2 < (a0.length : Int)) then (gd [decide (0 ≤ p1.2),decide (p1.2 < (a0.length : Int))] ((M.YQ ((a0.getD p1.2.toNat default).Zl) a1).bind fun r4 => gd [guardB (r4 && !(decide (p1.1 < 0))) (decide (0 ≤ p1.1)),guardB (r4 && !(decide (p1.1 < 0))) (decide (p1.1 < (a0.length : Int)))] (bif r4 && ((decide (p1.1 < 0)) || (decide ((((a0.getD p1.2.toNat default).Zl).ZL) > (((a0.getD p1.1.toNat default).Zl).ZL)))) then (M.J3 p1 p1.2) else (M.J3 p1 p1.1)))) else (some (.inr p1.1))
noncomputable def M.WP (a0 : List YJ) (a1 : Int) : Option Int :=
 (loopM (M.WD a0 a1) ((-1),0)).bind fun y5 => some y5
noncomputable def M.UG  : Option Bool :=
 (M.U6 (⟨([(⟨(⟨#[97]⟩ : ByteArray),0,([(⟨(⟨#[101,48]⟩ : ByteArray),167772161,24,0,false,false,0,0,false,(⟨#[]⟩ : ByteArray),(⟨#[]⟩ : ByteArray),0⟩ : ZA)] : List ZA),([] : List ZW),([] : List Yl),([] : List US),([] : List Qx),([(⟨(⟨0,0⟩ : ZM),167772169,(⟨#[]⟩ : ByteArray),false,1,0⟩ : X2)] : List X2),(⟨false,0,([] : List VY),([] : List Qt)⟩ : Wo),(⟨false,0,(⟨#[]⟩ : ByteArray),(⟨#[]⟩ : ByteArray),([] : List Qt)⟩ : Y9),(⟨false,0,0,([] : List Vq),([] : List ZM),([] : List VZ),([] : List V0),([] : List Qt)⟩ : XI)⟩ : Zh)] : List Zh)⟩ : ZG) ([] : List Int)).bind fun r1 => bif r1.2 != 0 then (some false) else ((M.WT r1.1 ([(⟨(⟨0,0⟩ : ZM),2,0,1,0,0,0,0,([] : List Int),0,167772169,([] : List ZY),false⟩ : Z3),(⟨(⟨167772160,24⟩ : ZM),1,0,0,0,0,0,0,([] : List Int),0,0,([(⟨0,0⟩ : ZY)] : List ZY),false⟩ : Z3)] : List Z3) 0).bind fun r2 => (gc ((((r2.length : Int) == 2) && ((((r2.getD (0 : Int).toNat default).ZU).length : Int) == 1)) && ((((((r2.getD (0 : Int).toNat default).ZU).getD (0 : Int).toNat default).ZH) == 0) && ((((((r2.getD (0 : Int).toNat default).ZU).getD (0 : Int).toNat default).Zn) == 167772169) && true))) (M.WP r2 5)).bind fun r3 => (gc (((((r2.length : Int) == 2) && ((((r2.getD (0 : Int).toNat default).ZU).length : Int) == 1)) && ((((((r2.getD (0 : Int).toNat default).ZU).getD (0 : Int).toNat default).ZH) == 0) && ((((((r2.getD (0 : Int).toNat default).ZU).getD (0 : Int).toNat default).Zn) == 167772169) && true))) && (r3 == 0)) (M.WP r2 167772165)).bind fun r4 => gd [guardB ((r2.length : Int) == 2) (decide (0 ≤ 0)),guardB ((r2.length : Int) == 2) (decide (0 < (r2.length : Int))),guardB (((r2.length : Int) == 2) && ((((r2.getD (0 : Int).toNat default).ZU).length : Int) == 1)) (decide (0 ≤ 0)),guardB (((r2.length : Int) == 2) && ((((r2.getD (0 : Int).toNat default).ZU).length : Int) == 1)) (decide (0 < (r2.length : Int))),guardB (((r2.length : Int) == 2) && ((((r2.getD (0 : Int).toNat default).ZU).length : Int) == 1)) (decide (0 ≤ 0)),guardB (((r2.length : Int) == 2) && ((((r2.getD (0 : Int).toNat default).ZU).length : Int) == 1)) (decide (0 < (((r2.getD (0 : Int).toNat default).ZU).length : Int)))] (some ((((((r2.length : Int) == 2) && ((((r2.getD (0 : Int).toNat default).ZU).length : Int) == 1)) && ((((((r2.getD (0 : Int).toNat default).ZU).getD (0 : Int).toNat default).ZH) == 0) && ((((((r2.getD (0 : Int).toNat default).ZU).getD (0 : Int).toNat default).Zn) == 167772169) && true))) && (r3 == 0)) && (r4 == 1))))
noncomputable def M.Uo (r1 : XU × Bool) (p3 : Int) (r5 : (List YJ)) (p6 : Int) (p8 : Int) : Option (Int ⊕ (Unit ⊕ Bool)) :=
 gd [decide (0 ≤ p6),decide (p6 < (r5.length : Int))] (bif decide (p8 < (((r5.getD p6.toNat default).ZU).length : Int)) then (gd [decide (0 ≤ p6),decide (p6 < (r5.length : Int)),decide (0 ≤ p8),decide (p8 < (((r5.getD p6.toNat default).ZU).length : Int))] ((M.Gh r1.1 p3 ((((r5.getD p6.toNat default).ZU).getD p8.toNat default).ZH)).bind fun r10 => gd [guardB ((!(!r10)) && (decide (p8 > 0))) (decide (0 ≤ p6)),guardB ((!(!r10)) && (decide (p8 > 0))) (decide (p6 < (r5.length : Int))),guardB ((!(!r10)) && (decide (p8 > 0))) (decide (0 ≤ (wr .i64 (p8 - 1)))),guardB ((!(!r10)) && (decide (p8 > 0))) (decide ((wr .i64 (p8 - 1)) < (((r5.getD p6.toNat default).ZU).length : Int))),guardB (((!(!r10)) && (decide (p8 > 0))) && !(decide (((((r5.getD p6.toNat default).ZU).getD p8.toNat default).ZH) < ((((r5.getD p6.toNat default).ZU).getD (wr .i64 (p8 - 1)).toNat default).ZH)))) (decide (0 ≤ p6)),guardB (((!(!r10)) && (decide (p8 > 0))) && !(decide (((((r5.getD p6.toNat default).ZU).getD p8.toNat default).ZH) < ((((r5.getD p6.toNat default).ZU).getD (wr .i64 (p8 - 1)).toNat default).ZH)))) (decide (p6 < (r5.length : Int))),guardB (((!(!r10)) && (decide (p8 > 0))) && !(decide (((((r5.getD p6.toNat default).ZU).getD p8.toNat default).ZH) < ((((r5.getD p6.toNat default).ZU).getD (wr .i64 (p8 - 1)).toNat default).ZH)))) (decide (0 ≤ (wr .i64 (p8 - 1)))),guardB (((!(!r10)) && (decide (p8 > 0))) && !(decide (((((r5.getD p6.toNat default).ZU).getD p8.toNat default).ZH) < ((((r5.getD p6.toNat default).ZU).getD (wr .i64 (p8 - 1)).toNat default).ZH)))) (decide ((wr .i64 (p8 - 1)) < (((r5.getD p6.toNat default).ZU).length : Int))),guardB ((((!(!r10)) && (decide (p8 > 0))) && !(decide (((((r5.getD p6.toNat default).ZU).getD p8.toNat default).ZH) < ((((r5.getD p6.toNat default).ZU).getD (wr .i64 (p8 - 1)).toNat default).ZH)))) && (((((r5.getD p6.toNat default).ZU).getD p8.toNat default).ZH) == ((((r5.getD p6.toNat default).ZU).getD (wr .i64 (p8 - 1)).toNat default).ZH))) (decide (0 ≤ p6)),guardB ((((!(!r10)) && (decide (p8 > 0))) && !(decide (((((r5.getD p6.toNat default).ZU).getD p8.toNat default).ZH) < ((((r5.getD p6.toNat default).ZU).getD (wr .i64 (p8 - 1)).toNat default).ZH)))) && (((((r5.getD p6.toNat default).ZU).getD p8.toNat default).ZH) == ((((r5.getD p6.toNat default).ZU).getD (wr .i64 (p8 - 1)).toNat default).ZH))) (decide (p6 < (r5.length : Int))),guardB ((((!(!r10)) && (decide (p8 > 0))) && !(decide (((((r5.getD p6.toNat default).ZU).getD p8.toNat default).ZH) < ((((r5.getD p6.toNat default).ZU).getD (wr .i64 (p8 - 1)).toNat default).ZH)))) && (((((r5.getD p6.toNat default).ZU).getD p8.toNat default).ZH) == ((((r5.getD p6.toNat default).ZU).getD (wr .i64 (p8 - 1)).toNat default).ZH))) (decide (0 ≤ (wr .i64 (p8 - 1)))),guardB ((((!(!r10)) && (decide (p8 > 0))) && !(decide (((((r5.getD p6.toNat default).ZU).getD p8.toNat default).ZH) < ((((r5.getD p6.toNat default).ZU).getD (wr .i64 (p8 - 1)).toNat default).ZH)))) && (((((r5.getD p6.toNat default).ZU).getD p8.toNat default).ZH) == ((((r5.getD p6.toNat default).ZU).getD (wr .i64 (p8 - 1)).toNat default).ZH))) (decide ((wr .i64 (p8 - 1)) < (((r5.getD p6.toNat default).ZU).length : Int)))] (bif (!r10) || ((decide (p8 > 0)) && ((decide (((((r5.getD p6.toNat default).ZU).getD p8.toNat default).ZH) < ((((r5.getD p6.toNat default).ZU).getD (wr .i64 (p8 - 1)).toNat default).ZH))) || ((((((r5.getD p6.toNat default).ZU).getD p8.toNat default).ZH) == ((((r5.getD p6.toNat default).ZU).getD (wr .i64 (p8 - 1)).toNat default).ZH)) && (decide (((((r5.getD p6.toNat default).ZU).getD p8.toNat default).Zn) ≤ ((((r5.getD p6.toNat default).ZU).getD (wr .i64 (p8 - 1)).toNat default).Zn)))))) then (some (.inr (.inr false))) else (some (.inl (wr .i64 (p8 + 1))))))) else (some (.inr (.inl ()))))
noncomputable def M.Up (r1 : XU × Bool) (p3 : Int) (r5 : (List YJ)) (p6 : Int) : Option (Int ⊕ (Unit ⊕ Bool)) :=
 bif decide (p6 < (r5.length : Int)) then (gd [decide (0 ≤ p6),decide (p6 < (r5.length : Int)),guardB ((r5.getD p6.toNat default).Z1) (decide (0 ≤ p6)),guardB ((r5.getD p6.toNat default).Z1) (decide (p6 < (r5.length : Int)))] (bif ((r5.getD p6.toNat default).Z1) && (decide ((((r5.getD p6.toNat default).ZU).length : Int) > 0)) then (some (.inr (.inr false))) else ((loopM (M.Uo r1 p3 r5 p6) 0).bind fun y11 => Sum.elim (fun _ => some (.inl (wr .i64 (p6 + 1)))) (fun y13 => some (.inr (.inr y13))) y11))) else (some (.inr (.inl ())))
noncomputable def M.Uq (a0 : ZG) (a2 : List Z3) (r1 : XU × Bool) (p3 : Int) : Option (Int ⊕ (Unit ⊕ Bool)) :=
 bif decide (p3 < (a0.Ze.length : Int)) then ((M.WT r1.1 a2 p3).bind fun r5 => (loopM (M.Up r1 p3 r5) 0).bind fun y14 => Sum.elim (fun _ => some (.inl (wr .i64 (p3 + 1)))) (fun y16 => some (.inr (.inr y16))) y14) else (some (.inr (.inl ())))
noncomputable def M.G6 (a0 : ZG) (a1 : List Int) (a2 : List Z3) : Option Bool :=
 (M.Gn a0 a1).bind fun r1 => (gc (!((!r1.2) || (decide ((a2.length : Int) > 20)))) (M.WZ a2 0)).bind fun r2 => bif ((!r1.2) || (decide ((a2.length : Int) > 20))) || (!r2) then (some true) else ((loopM (M.Uq a0 a2 r1) 0).bind fun y17 => Sum.elim (fun _ => (M.UG).bind fun r20 => some r20) (fun y19 => some y19) y17)
end Nv
