/- The mirrors: what each function of the given program computes, in plain terms. -/
import Derived.Test.YtaienbkgekjdnaaGreatNvLibB
import Derived.Test.YtaienbkgekjdnaaGreatNvLibD
import Derived.Test.YtaienbkgekjdnaaGreatNvLibC
set_option maxRecDepth 100000
namespace Nv
open Go
structure Zy where
  ZX : ByteArray
  Zu : Int
  ZJ : Int
  Xu : Int
  R0 : Bool
  Yl : Bool
  J7 : Int
  R1 : Int
  YH : Bool
  V7 : ByteArray
  Y2 : ByteArray
  Zau : Int
  deriving Inhabited
def Zn (x : Zy) : List D := [.str x.ZX, .int .u32 x.Zu, .int .i64 x.ZJ, .int .i64 x.Xu, .bool x.R0, .bool x.Yl, .int .i64 x.J7, .int .i64 x.R1, .bool x.YH, .str x.V7, .str x.Y2, .int .i64 x.Zau]
structure ZL where
  Zu : Int
  ZJ : Int
  deriving Inhabited
def Xb (x : ZL) : List D := [.int .u32 x.Zu, .int .i64 x.ZJ]
structure Gt where
  ZeL : Bool
  Zp : ZL
  Zc5 : Int
  Zc6 : Int
  deriving Inhabited
def KN (x : Gt) : List D := [.bool x.ZeL, .int .u32 x.Zp.Zu, .int .i64 x.Zp.ZJ, .int .i64 x.Zc5, .int .i64 x.Zc6]
structure Z3 where
  ZX : ByteArray
  XC : List Gt
  deriving Inhabited
def ZC (x : Z3) : List D := [.str x.ZX, sL 5 KN x.XC]
structure Kq where
  ZeL : Bool
  QX : ByteArray
  Gk : Int
  W3 : Int
  Kr : Int
  Gu : Int
  Gv : Int
  deriving Inhabited
def Zc2 (x : Kq) : List D := [.bool x.ZeL, .str x.QX, .int .i64 x.Gk, .int .i64 x.W3, .int .i64 x.Kr, .int .i64 x.Gu, .int .i64 x.Gv]
structure X4 where
  ZX : ByteArray
  Xn : List Kq
  deriving Inhabited
def Z8 (x : X4) : List D := [.str x.ZX, sL 7 Zc2 x.Xn]
structure Zc3 where
  Zu : Int
  GJ : Int
  deriving Inhabited
def Zkx (x : Zc3) : List D := [.int .u32 x.Zu, .int .u32 x.GJ]
structure J8 where
  GK : Int
  Ks : Int
  deriving Inhabited
def Ri (x : J8) : List D := [.int .i64 x.GK, .int .i64 x.Ks]
structure Zbt where
  ZeL : Bool
  Ye : Int
  Zab : Zc3
  Zac : Zc3
  VB : J8
  VC : J8
  deriving Inhabited
def ZeM (x : Zbt) : List D := [.bool x.ZeL, .int .i64 x.Ye, .int .u32 x.Zab.Zu, .int .u32 x.Zab.GJ, .int .u32 x.Zac.Zu, .int .u32 x.Zac.GJ, .int .i64 x.VB.GK, .int .i64 x.VB.Ks, .int .i64 x.VC.GK, .int .i64 x.VC.Ks]
structure WU where
  ZX : ByteArray
  XC : List Zbt
  deriving Inhabited
def Qi (x : WU) : List D := [.str x.ZX, sL 10 ZeM x.XC]
structure YZ where
  J5 : Int
  Qq : Int
  YA : Int
  Ye : Int
  QR : Int
  Ql : Int
  QX : ByteArray
  GK : Int
  Ks : Int
  deriving Inhabited
def Xc (x : YZ) : List D := [.int .i64 x.J5, .int .u32 x.Qq, .int .u32 x.YA, .int .i64 x.Ye, .int .i64 x.QR, .int .i64 x.Ql, .str x.QX, .int .u32 x.GK, .int .u32 x.Ks]
structure Yf where
  Zp : ZL
  Vu : Int
  QI : ByteArray
  VH : Bool
  Xl : Int
  Gk : Int
  deriving Inhabited
def Z7 (x : Yf) : List D := [.int .u32 x.Zp.Zu, .int .i64 x.Zp.ZJ, .int .u32 x.Vu, .str x.QI, .bool x.VH, .int .i64 x.Xl, .int .i64 x.Gk]
structure Wg where
  J7 : Int
  Zp : ZL
  deriving Inhabited
def XA (x : Wg) : List D := [.int .i64 x.J7, .int .u32 x.Zp.Zu, .int .i64 x.Zp.ZJ]
structure YB where
  WX : Int
  Rj : Int
  Gk : Int
  Zad : ByteArray
  KG : Int
  deriving Inhabited
def ZD (x : YB) : List D := [.int .i64 x.WX, .int .i64 x.Rj, .int .i64 x.Gk, .str x.Zad, .int .i64 x.KG]
structure Wv where
  WI : Bool
  Xl : Int
  ZK : List Wg
  Zv : List YB
  deriving Inhabited
def Rk (x : Wv) : List D := [.bool x.WI, .int .i64 x.Xl, sL 3 XA x.ZK, sL 5 ZD x.Zv]
structure QD where
  WI : Bool
  Xl : Int
  V7 : ByteArray
  Y2 : ByteArray
  Zv : List YB
  deriving Inhabited
def ZeN (x : QD) : List D := [.bool x.WI, .int .i64 x.Xl, .str x.V7, .str x.Y2, sL 5 ZD x.Zv]
structure VD where
  Zu : Int
  Kt : Int
  V7 : ByteArray
  Y2 : ByteArray
  deriving Inhabited
def XJ (x : VD) : List D := [.int .u32 x.Zu, .int .i64 x.Kt, .str x.V7, .str x.Y2]
structure Wh where
  Zp : ZL
  Zqz : Bool
  deriving Inhabited
def XB (x : Wh) : List D := [.int .u32 x.Zp.Zu, .int .i64 x.Zp.ZJ, .bool x.Zqz]
structure Wi where
  Zp : ZL
  fIf : ZL
  Zpu : Bool
  deriving Inhabited
def Xx (x : Wi) : List D := [.int .u32 x.Zp.Zu, .int .i64 x.Zp.ZJ, .int .u32 x.fIf.Zu, .int .i64 x.fIf.ZJ, .bool x.Zpu]
structure Z6 where
  WI : Bool
  X7 : Int
  X8 : Int
  Zl : List VD
  Zt : List ZL
  Zr : List Wh
  Zo : List Wi
  Zv : List YB
  deriving Inhabited
def Ga (x : Z6) : List D := [.bool x.WI, .int .i64 x.X7, .int .i64 x.X8, sL 4 XJ x.Zl, sL 2 Xb x.Zt, sL 3 XB x.Zr, sL 5 Xx x.Zo, sL 5 ZD x.Zv]
structure Zf where
  ZX : ByteArray
  Kt : Int
  Zc : List Zy
  Xm : List Z3
  Xa : List X4
  XR : List WU
  Xf : List YZ
  Zq : List Yf
  Yl : Wv
  YH : QD
  Xd : Z6
  deriving Inhabited
def Zx (x : Zf) : List D := [.str x.ZX, .int .i64 x.Kt, sL 12 Zn x.Zc, sL 2 ZC x.Xm, sL 2 Z8 x.Xa, sL 2 Qi x.XR, sL 9 Xc x.Xf, sL 7 Z7 x.Zq, .bool x.Yl.WI, .int .i64 x.Yl.Xl, sL 3 XA x.Yl.ZK, sL 5 ZD x.Yl.Zv, .bool x.YH.WI, .int .i64 x.YH.Xl, .str x.YH.V7, .str x.YH.Y2, sL 5 ZD x.YH.Zv, .bool x.Xd.WI, .int .i64 x.Xd.X7, .int .i64 x.Xd.X8, sL 4 XJ x.Xd.Zl, sL 2 Xb x.Xd.Zt, sL 3 XB x.Xd.Zr, sL 5 Xx x.Xd.Zo, sL 5 ZD x.Xd.Zv]
structure ZY where
  Zd : List Zf
  deriving Inhabited
def Yj (x : ZY) : List D := [sL 25 Zx x.Zd]
structure V9 where
  KO : Int
  QI : Int
  deriving Inhabited
def Xt (x : V9) : List D := [.int .i64 x.KO, .int .i64 x.QI]
structure Zk where
  Zp : ZL
  Xu : Int
  Xh : List V9
  deriving Inhabited
def ZV (x : Zk) : List D := [.int .u32 x.Zp.Zu, .int .i64 x.Zp.ZJ, .int .i64 x.Xu, sL 2 Xt x.Xh]
structure QB where
  XW : List Zk
  WP : List Int
  deriving Inhabited
def WJ (x : QB) : List D := [sL 4 ZV x.XW, sL 1 (ci .i64) x.WP]
structure Z9 where
  R2 : ZL
  Zl9 : Int
  deriving Inhabited
def Xi (x : Z9) : List D := [.int .u32 x.R2.Zu, .int .i64 x.R2.ZJ, .int .i64 x.Zl9]
structure GS where
  ZqK : ZY
  UA : QB
  R0 : List Int
  deriving Inhabited
def GW (x : GS) : List D := [sL 25 Zx x.ZqK.Zd, sL 4 ZV x.UA.XW, sL 1 (ci .i64) x.UA.WP, sL 1 (ci .i64) x.R0]
def Vn (a b : Z9) : Bool := (((a.R2.Zu == b.R2.Zu) && ((a.R2.ZJ == b.R2.ZJ) && true)) && ((a.Zl9 == b.Zl9) && true))
def YI (x : Zk) : List D := [.int .u32 x.Zp.Zu, .int .i64 x.Zp.ZJ, .int .i64 x.Xu]
noncomputable def M.Wz (a0 : Zf) (p1 : Int) : Option (Int ⊕ (Unit ⊕ Bool)) :=
  bif decide (p1 < (a0.Xm.length : Int)) then (gd [decide (0 ≤ p1), decide (p1 < (a0.Xm.length : Int))] (bif decide ((((a0.Xm.getD p1.toNat default).XC).length : Int) > 20) then (some (.inr (.inr false))) else (some (.inl (wr .i64 (p1 + 1)))))) else (some (.inr (.inl ())))
noncomputable def M.WA (a0 : Zf) (p6 : Int) : Option (Int ⊕ (Unit ⊕ Bool)) :=
  bif decide (p6 < (a0.Xa.length : Int)) then (gd [decide (0 ≤ p6), decide (p6 < (a0.Xa.length : Int))] (bif decide ((((a0.Xa.getD p6.toNat default).Xn).length : Int) > 12) then (some (.inr (.inr false))) else (some (.inl (wr .i64 (p6 + 1)))))) else (some (.inr (.inl ())))
noncomputable def M.WB (a0 : Zf) (p11 : Int) : Option (Int ⊕ (Unit ⊕ Bool)) :=
  bif decide (p11 < (a0.XR.length : Int)) then (gd [decide (0 ≤ p11), decide (p11 < (a0.XR.length : Int))] (bif decide ((((a0.XR.getD p11.toNat default).XC).length : Int) > 20) then (some (.inr (.inr false))) else (some (.inl (wr .i64 (p11 + 1)))))) else (some (.inr (.inl ())))
noncomputable def M.VW (a0 : Zf) : Option Bool :=
  bif (((((((((((((decide ((a0.Zc.length : Int) > 12)) || (decide ((a0.Xm.length : Int) > 12))) || (decide ((a0.Xa.length : Int) > 12))) || (decide ((a0.XR.length : Int) > 12))) || (decide ((a0.Xf.length : Int) > 12))) || (decide ((a0.Zq.length : Int) > 20))) || (decide ((a0.Yl.ZK.length : Int) > 8))) || (decide ((a0.Yl.Zv.length : Int) > 8))) || (decide ((a0.YH.Zv.length : Int) > 8))) || (decide ((a0.Xd.Zv.length : Int) > 8))) || (decide ((a0.Xd.Zl.length : Int) > 12))) || (decide ((a0.Xd.Zt.length : Int) > 12))) || (decide ((a0.Xd.Zr.length : Int) > 12))) || (decide ((a0.Xd.Zo.length : Int) > 12)) then (some false) else ((ZZ (M.Wz a0) 0).bind fun y3 => Sum.elim (fun _ => (ZZ (M.WA a0) 0).bind fun y8 => Sum.elim (fun _ => (ZZ (M.WB a0) 0).bind fun y13 => Sum.elim (fun _ => some true) (fun y15 => some y15) y13) (fun y10 => some y10) y8) (fun y5 => some y5) y3)
noncomputable def M.Y3 (a0 : ZY) (p1 : Int) : Option (Int ⊕ (Unit ⊕ Bool)) :=
  bif decide (p1 < (a0.Zd.length : Int)) then ((M.VW (a0.Zd.getD p1.toNat default)).bind fun r3 => gd [decide (0 ≤ p1), decide (p1 < (a0.Zd.length : Int))] (bif !r3 then (some (.inr (.inr false))) else (some (.inl (wr .i64 (p1 + 1)))))) else (some (.inr (.inl ())))
noncomputable def M.V2 (a0 : ZY) : Option Bool :=
  bif decide ((a0.Zd.length : Int) > 9) then (some false) else ((ZZ (M.Y3 a0) 0).bind fun y4 => Sum.elim (fun _ => some true) (fun y6 => some y6) y4)
noncomputable def M.V3 (a0 : Int) : Option Bool :=
  some (((decide (65 ≤ a0)) && (decide (a0 ≤ 90))) || ((decide (97 ≤ a0)) && (decide (a0 ≤ 122))))
noncomputable def M.Uu (a0 : Int) : Option Bool :=
  some ((decide (48 ≤ a0)) && (decide (a0 ≤ 57)))
noncomputable def M.Wj (a0 : ByteArray) (p2 : Int) : Option (Int ⊕ (Unit ⊕ Bool)) :=
  bif decide (p2 < (a0.size : Int)) then (gd [decide (0 ≤ p2), decide (p2 < (a0.size : Int))] ((M.V3 (JN a0 p2)).bind fun r4 => (gc (!r4) (M.Uu (JN a0 p2))).bind fun r5 => bif (((((!r4) && (!r5)) && ((JN a0 p2) != 45)) && ((JN a0 p2) != 95)) && ((JN a0 p2) != 47)) && ((JN a0 p2) != 46) then (some (.inr (.inr false))) else (some (.inl (wr .i64 (p2 + 1)))))) else (some (.inr (.inl ())))
noncomputable def M.Ww (a0 : ByteArray) : Option Bool :=
  (gc (!((decide ((a0.size : Int) < 1)) || (decide ((a0.size : Int) > 15)))) (M.V3 (JN a0 0))).bind fun r1 => gd [Ys (!((decide ((a0.size : Int) < 1)) || (decide ((a0.size : Int) > 15)))) (decide (0 ≤ 0)), Ys (!((decide ((a0.size : Int) < 1)) || (decide ((a0.size : Int) > 15)))) (decide (0 < (a0.size : Int)))] (bif ((decide ((a0.size : Int) < 1)) || (decide ((a0.size : Int) > 15))) || (!r1) then (some false) else ((ZZ (M.Wj a0) 1).bind fun y6 => Sum.elim (fun _ => some true) (fun y8 => some y8) y6))
noncomputable def M.ZP (a0 : Int) (a1 : Int) (a2 : Int) : Option Bool :=
  some ((decide (a1 ≤ a0)) && (decide (a0 ≤ a2)))
noncomputable def M.JE (a0 : Zy) (b0 : ByteArray) : Option Bool :=
  some (YJ a0.ZX b0)
noncomputable def M.ZE (a0 : List Zy) (a1c0 : ByteArray) (p1 : Int) : Option (Int ⊕ (Unit ⊕ Int)) :=
  bif decide (p1 < (a0.length : Int)) then ((M.JE (a0.getD p1.toNat default) a1c0).bind fun r3 => gd [decide (0 ≤ p1), decide (p1 < (a0.length : Int))] (bif r3 then (some (.inr (.inr p1))) else (some (.inl (wr .i64 (p1 + 1)))))) else (some (.inr (.inl ())))
noncomputable def M.ZF (a0 : List Zy) (a1c0 : ByteArray) : Option Int :=
  (ZZ (M.ZE a0 a1c0) 0).bind fun y4 => Sum.elim (fun _ => some (-1)) (fun y6 => some y6) y4
noncomputable def M.Qo (a0 : Zf) (a1 : ByteArray) : Option Int :=
  (M.ZF a0.Zc a1).bind fun r1 => some r1
noncomputable def M.Qx (a0 : Zy) : Option Bool :=
  (M.ZP a0.ZJ 0 32).bind fun r1 => (gc (!(!r1)) (M.ZP a0.Xu 0 4094)).bind fun r2 => (gc (!((!r1) || (!r2))) (M.ZP a0.Zau 0 2)).bind fun r3 => bif ((!r1) || (!r2)) || (!r3) then (some false) else (bif (a0.ZJ == 0) && (((((((a0.Zu != 0) || (a0.Xu != 0)) || (a0.Zau != 0)) || a0.Yl) || a0.YH) || (!strEq a0.V7 (⟨#[]⟩ : ByteArray))) || (!strEq a0.Y2 (⟨#[]⟩ : ByteArray))) then (some false) else (bif (a0.ZJ != 0) && (a0.Zu == 0) then (some false) else (bif a0.Yl then ((M.ZP a0.J7 0 255).bind fun r4 => (gc r4 (M.ZP a0.R1 1 65535)).bind fun r5 => some (r4 && r5)) else (some ((a0.J7 == 0) && (a0.R1 == 0))))))
noncomputable def M.JO (a0 : Int) : Option Int :=
  some (if (if 32 < a0 then 32 else a0) > 0 then (if 32 < a0 then 32 else a0) else 0)
noncomputable def M.J6 (a0 : Int) : Option Int :=
  (M.JO a0).bind fun r1 => gd [decide (0 ≤ (wr .i64 (32 - r1)))] (some (wr .u32 (4294967295 * 2 ^ min (wr .i64 (32 - r1)).toNat 32)))
noncomputable def M.Y0 (a0 : Int) (a1 : Int) : Option ZL :=
  (M.J6 a1).bind fun r1 => (M.JO a1).bind fun r2 => some (⟨Uc .and .u32 a0 r1, r2⟩ : ZL)
noncomputable def M.WC (a0 : ZL) (a1 : Int) : Option Bool :=
  (M.J6 a0.ZJ).bind fun r1 => some ((Uc .and .u32 a1 r1) == a0.Zu)
noncomputable def M.WK (a0 : ZL) (a1 : ZL) : Option Bool :=
  (gc (decide (a0.ZJ ≤ a1.ZJ)) (M.WC a0 a1.Zu)).bind fun r1 => some ((decide (a0.ZJ ≤ a1.ZJ)) && r1)
noncomputable def M.Vh (a0 : ZL) (a1 : ZL) : Option Bool :=
  (M.WK a0 a1).bind fun r1 => (gc (!r1) (M.WK a1 a0)).bind fun r2 => some (r1 || r2)
noncomputable def M.Ym (a0 : Zf) (p1 : Int) (p6 : Int) : Option (Int ⊕ (Unit ⊕ Int)) :=
  bif decide (p6 < ((p1.toNat - 0 : Nat) : Int)) then (gd [decide (0 ≤ p6), decide (p6 < (((a0.Zc.drop 0).take (p1.toNat - 0)).length : Int))] ((gc ((((a0.Zc.getD p1.toNat default).ZJ) != 0) && (((((a0.Zc.drop 0).take (p1.toNat - 0)).getD p6.toNat default).ZJ) != 0)) (M.Y0 ((a0.Zc.getD p1.toNat default).Zu) ((a0.Zc.getD p1.toNat default).ZJ))).bind fun r8 => (gc ((((a0.Zc.getD p1.toNat default).ZJ) != 0) && (((((a0.Zc.drop 0).take (p1.toNat - 0)).getD p6.toNat default).ZJ) != 0)) (M.Y0 ((((a0.Zc.drop 0).take (p1.toNat - 0)).getD p6.toNat default).Zu) ((((a0.Zc.drop 0).take (p1.toNat - 0)).getD p6.toNat default).ZJ))).bind fun r9 => (gc ((((a0.Zc.getD p1.toNat default).ZJ) != 0) && (((((a0.Zc.drop 0).take (p1.toNat - 0)).getD p6.toNat default).ZJ) != 0)) (M.Vh r8 r9)).bind fun r10 => bif ((((a0.Zc.getD p1.toNat default).ZJ) != 0) && (((((a0.Zc.drop 0).take (p1.toNat - 0)).getD p6.toNat default).ZJ) != 0)) && r10 then (some (.inr (.inr 6))) else (some (.inl (wr .i64 (p6 + 1)))))) else (some (.inr (.inl ())))
noncomputable def M.YE (a0 : Zf) (p1 : Int) : Option (Int ⊕ (Unit ⊕ Int)) :=
  bif decide (p1 < (a0.Zc.length : Int)) then (gd [decide (0 ≤ p1), decide (p1 < (a0.Zc.length : Int))] ((M.Ww ((a0.Zc.getD p1.toNat default).ZX)).bind fun r3 => bif !r3 then (some (.inr (.inr 3))) else ((M.Qo a0 ((a0.Zc.getD p1.toNat default).ZX)).bind fun r4 => bif decide (r4 < p1) then (some (.inr (.inr 4))) else ((M.Qx (a0.Zc.getD p1.toNat default)).bind fun r5 => bif !r5 then (some (.inr (.inr 1))) else (gd [decide (0 ≤ p1), decide (p1 ≤ (a0.Zc.length : Int))] ((ZZ (M.Ym a0 p1) 0).bind fun y11 => Sum.elim (fun _ => some (.inl (wr .i64 (p1 + 1)))) (fun y13 => some (.inr (.inr y13))) y11)))))) else (some (.inr (.inl ())))
noncomputable def M.YO (a0 : Zf) : Option Int :=
  bif decide ((a0.Zc.length : Int) > 8) then (some 7) else ((ZZ (M.YE a0) 0).bind fun y14 => Sum.elim (fun _ => some 0) (fun y16 => some y16) y14)
noncomputable def M.JP (a0 : Z3) (b0 : ByteArray) : Option Bool :=
  some (YJ a0.ZX b0)
noncomputable def M.ZG (a0 : List Z3) (a1c0 : ByteArray) (p1 : Int) : Option (Int ⊕ (Unit ⊕ Int)) :=
  bif decide (p1 < (a0.length : Int)) then ((M.JP (a0.getD p1.toNat default) a1c0).bind fun r3 => gd [decide (0 ≤ p1), decide (p1 < (a0.length : Int))] (bif r3 then (some (.inr (.inr p1))) else (some (.inl (wr .i64 (p1 + 1)))))) else (some (.inr (.inl ())))
noncomputable def M.ZM (a0 : List Z3) (a1c0 : ByteArray) : Option Int :=
  (ZZ (M.ZG a0 a1c0) 0).bind fun y4 => Sum.elim (fun _ => some (-1)) (fun y6 => some y6) y4
noncomputable def M.Yt (a0 : Zf) (a1 : ByteArray) : Option Int :=
  (M.ZM a0.Xm a1).bind fun r1 => some r1
noncomputable def M.YX (a0 : Int) (a1 : Int) (a2 : ByteArray) (a3 : Int) (a4 : Int) : Option Int :=
  (M.Ww a2).bind fun r1 => bif !r1 then (some 3) else (bif decide (a1 < a0) then (some 4) else (bif a3 == 0 then (some 1) else (bif decide (a3 > a4) then (some 7) else (some 0))))
noncomputable def M.QW (a0 : ZL) : Option Bool :=
  (gc ((decide (a0.ZJ ≥ 0)) && (decide (a0.ZJ ≤ 32))) (M.J6 a0.ZJ)).bind fun r1 => some (((decide (a0.ZJ ≥ 0)) && (decide (a0.ZJ ≤ 32))) && ((Uc .andNot .u32 a0.Zu r1) == 0))
noncomputable def M.Yg (a0 : Zf) (p1 : Int) (p5 : Int) : Option (Int ⊕ (Unit ⊕ Int)) :=
  bif decide (p5 < (((a0.Xm.getD p1.toNat default).XC).length : Int)) then (gd [decide (0 ≤ p5), decide (p5 < (((a0.Xm.getD p1.toNat default).XC).length : Int))] ((M.QW ((((a0.Xm.getD p1.toNat default).XC).getD p5.toNat default).Zp)).bind fun r7 => bif (((!r7) || (decide (((((a0.Xm.getD p1.toNat default).XC).getD p5.toNat default).Zc5) < (((((a0.Xm.getD p1.toNat default).XC).getD p5.toNat default).Zp).ZJ)))) || (decide (((((a0.Xm.getD p1.toNat default).XC).getD p5.toNat default).Zc6) < ((((a0.Xm.getD p1.toNat default).XC).getD p5.toNat default).Zc5)))) || (decide (((((a0.Xm.getD p1.toNat default).XC).getD p5.toNat default).Zc6) > 32)) then (some (.inr (.inr 1))) else (some (.inl (wr .i64 (p5 + 1)))))) else (some (.inr (.inl ())))
noncomputable def M.Yr (a0 : Zf) (p1 : Int) : Option (Int ⊕ (Unit ⊕ Int)) :=
  bif decide (p1 < (a0.Xm.length : Int)) then (gd [decide (0 ≤ p1), decide (p1 < (a0.Xm.length : Int))] ((M.Yt a0 ((a0.Xm.getD p1.toNat default).ZX)).bind fun r3 => (M.YX p1 r3 ((a0.Xm.getD p1.toNat default).ZX) (((a0.Xm.getD p1.toNat default).XC).length : Int) 16).bind fun r4 => bif r4 != 0 then (some (.inr (.inr r4))) else ((ZZ (M.Yg a0 p1) 0).bind fun y8 => Sum.elim (fun _ => some (.inl (wr .i64 (p1 + 1)))) (fun y10 => some (.inr (.inr y10))) y8))) else (some (.inr (.inl ())))
noncomputable def M.YF (a0 : Zf) : Option Int :=
  bif decide ((a0.Xm.length : Int) > 8) then (some 7) else ((ZZ (M.Yr a0) 0).bind fun y11 => Sum.elim (fun _ => some 0) (fun y13 => some y13) y11)
noncomputable def M.Vo (a0 : X4) (b0 : ByteArray) : Option Bool :=
  some (YJ a0.ZX b0)
noncomputable def M.ZU (a0 : List X4) (a1c0 : ByteArray) (p1 : Int) : Option (Int ⊕ (Unit ⊕ Int)) :=
  bif decide (p1 < (a0.length : Int)) then ((M.Vo (a0.getD p1.toNat default) a1c0).bind fun r3 => gd [decide (0 ≤ p1), decide (p1 < (a0.length : Int))] (bif r3 then (some (.inr (.inr p1))) else (some (.inl (wr .i64 (p1 + 1)))))) else (some (.inr (.inl ())))
noncomputable def M.Z2 (a0 : List X4) (a1c0 : ByteArray) : Option Int :=
  (ZZ (M.ZU a0 a1c0) 0).bind fun y4 => Sum.elim (fun _ => some (-1)) (fun y6 => some y6) y4
noncomputable def M.Y4 (a0 : Zf) (a1 : ByteArray) : Option Int :=
  (M.Z2 a0.Xa a1).bind fun r1 => some r1
noncomputable def M.Q4 (a0 : Kq) : Option Bool :=
  (M.ZP a0.Gk (-1) 65535).bind fun r1 => (gc r1 (M.ZP a0.W3 (-1) 16777215)).bind fun r2 => (gc (r1 && r2) (M.ZP a0.Kr (-1) 65535)).bind fun r3 => (gc ((r1 && r2) && r3) (M.ZP a0.Gu (-1) 1000000)).bind fun r4 => (gc (((r1 && r2) && r3) && r4) (M.ZP a0.Gv 0 8)).bind fun r5 => some ((((r1 && r2) && r3) && r4) && r5)
noncomputable def M.Yu (a0 : Zf) (p1 : Int) (p5 : Int) : Option (Int ⊕ (Unit ⊕ Int)) :=
  bif decide (p5 < (((a0.Xa.getD p1.toNat default).Xn).length : Int)) then (gd [decide (0 ≤ p5), decide (p5 < (((a0.Xa.getD p1.toNat default).Xn).length : Int))] ((gc (!strEq ((((a0.Xa.getD p1.toNat default).Xn).getD p5.toNat default).QX) (⟨#[]⟩ : ByteArray)) (M.Yt a0 ((((a0.Xa.getD p1.toNat default).Xn).getD p5.toNat default).QX))).bind fun r7 => bif (!strEq ((((a0.Xa.getD p1.toNat default).Xn).getD p5.toNat default).QX) (⟨#[]⟩ : ByteArray)) && (decide (r7 < 0)) then (some (.inr (.inr 5))) else ((M.Q4 (((a0.Xa.getD p1.toNat default).Xn).getD p5.toNat default)).bind fun r8 => bif !r8 then (some (.inr (.inr 1))) else (some (.inl (wr .i64 (p5 + 1))))))) else (some (.inr (.inl ())))
noncomputable def M.YL (a0 : Zf) (p1 : Int) : Option (Int ⊕ (Unit ⊕ Int)) :=
  bif decide (p1 < (a0.Xa.length : Int)) then (gd [decide (0 ≤ p1), decide (p1 < (a0.Xa.length : Int))] ((M.Y4 a0 ((a0.Xa.getD p1.toNat default).ZX)).bind fun r3 => (M.YX p1 r3 ((a0.Xa.getD p1.toNat default).ZX) (((a0.Xa.getD p1.toNat default).Xn).length : Int) 8).bind fun r4 => bif r4 != 0 then (some (.inr (.inr r4))) else ((ZZ (M.Yu a0 p1) 0).bind fun y9 => Sum.elim (fun _ => some (.inl (wr .i64 (p1 + 1)))) (fun y11 => some (.inr (.inr y11))) y9))) else (some (.inr (.inl ())))
noncomputable def M.Y5 (a0 : Zf) : Option Int :=
  bif decide ((a0.Xa.length : Int) > 8) then (some 7) else ((ZZ (M.YL a0) 0).bind fun y12 => Sum.elim (fun _ => some 0) (fun y14 => some y14) y12)
noncomputable def M.Ul (a0 : WU) (b0 : ByteArray) : Option Bool :=
  some (YJ a0.ZX b0)
noncomputable def M.Xg (a0 : List WU) (a1c0 : ByteArray) (p1 : Int) : Option (Int ⊕ (Unit ⊕ Int)) :=
  bif decide (p1 < (a0.length : Int)) then ((M.Ul (a0.getD p1.toNat default) a1c0).bind fun r3 => gd [decide (0 ≤ p1), decide (p1 < (a0.length : Int))] (bif r3 then (some (.inr (.inr p1))) else (some (.inl (wr .i64 (p1 + 1)))))) else (some (.inr (.inl ())))
noncomputable def M.Xo (a0 : List WU) (a1c0 : ByteArray) : Option Int :=
  (ZZ (M.Xg a0 a1c0) 0).bind fun y4 => Sum.elim (fun _ => some (-1)) (fun y6 => some y6) y4
noncomputable def M.V4 (a0 : Zf) (a1 : ByteArray) : Option Int :=
  (M.Xo a0.XR a1).bind fun r1 => some r1
noncomputable def M.QY (a0 : J8) : Option Bool :=
  some (((decide (0 ≤ a0.GK)) && (decide (a0.GK ≤ a0.Ks))) && (decide (a0.Ks ≤ 65535)))
noncomputable def M.JS (a0 : Zbt) : Option Bool :=
  (M.ZP a0.Ye (-1) 255).bind fun r1 => bif ((!r1) || ((Uc .and .u32 a0.Zab.Zu a0.Zab.GJ) != 0)) || ((Uc .and .u32 a0.Zac.Zu a0.Zac.GJ) != 0) then (some false) else ((M.QY a0.VB).bind fun r2 => (gc (!(!r2)) (M.QY a0.VC)).bind fun r3 => bif (!r2) || (!r3) then (some false) else (some (((a0.Ye == 6) || (a0.Ye == 17)) || (((a0.VB.GK == 0) && ((a0.VB.Ks == 65535) && true)) && ((a0.VC.GK == 0) && ((a0.VC.Ks == 65535) && true))))))
noncomputable def M.QJ (a0 : Zf) (p1 : Int) (p5 : Int) : Option (Int ⊕ (Unit ⊕ Int)) :=
  bif decide (p5 < (((a0.XR.getD p1.toNat default).XC).length : Int)) then (gd [decide (0 ≤ p5), decide (p5 < (((a0.XR.getD p1.toNat default).XC).length : Int))] ((M.JS (((a0.XR.getD p1.toNat default).XC).getD p5.toNat default)).bind fun r7 => bif !r7 then (some (.inr (.inr 1))) else (some (.inl (wr .i64 (p5 + 1)))))) else (some (.inr (.inl ())))
noncomputable def M.Jj (a0 : Zf) (p1 : Int) : Option (Int ⊕ (Unit ⊕ Int)) :=
  bif decide (p1 < (a0.XR.length : Int)) then (gd [decide (0 ≤ p1), decide (p1 < (a0.XR.length : Int))] ((M.V4 a0 ((a0.XR.getD p1.toNat default).ZX)).bind fun r3 => (M.YX p1 r3 ((a0.XR.getD p1.toNat default).ZX) (((a0.XR.getD p1.toNat default).XC).length : Int) 16).bind fun r4 => bif r4 != 0 then (some (.inr (.inr r4))) else ((ZZ (M.QJ a0 p1) 0).bind fun y8 => Sum.elim (fun _ => some (.inl (wr .i64 (p1 + 1)))) (fun y10 => some (.inr (.inr y10))) y8))) else (some (.inr (.inl ())))
noncomputable def M.JT (a0 : Zf) : Option Int :=
  bif decide ((a0.XR.length : Int) > 8) then (some 7) else ((ZZ (M.Jj a0) 0).bind fun y11 => Sum.elim (fun _ => some 0) (fun y13 => some y13) y11)
noncomputable def M.Y1 (a0 : YZ) : Option Bool :=
  bif a0.J5 == 1 then (some ((((a0.J5 == a0.J5) && ((a0.Qq == a0.Qq) && ((a0.YA == a0.YA) && ((a0.Ye == 0) && ((a0.QR == 0) && ((a0.Ql == 0) && (YJ a0.QX (⟨#[]⟩ : ByteArray) && ((a0.GK == 0) && ((a0.Ks == 0) && true))))))))) && (a0.Qq != 0)) && (a0.YA != 0))) else (bif a0.J5 == 2 then (some (((((a0.J5 == a0.J5) && ((a0.Qq == 0) && ((a0.YA == 0) && ((a0.Ye == 0) && ((a0.QR == 0) && ((a0.Ql == 0) && (YJ a0.QX a0.QX && ((a0.GK == a0.GK) && ((a0.Ks == a0.Ks) && true))))))))) && (a0.GK != 0)) && (decide (a0.GK ≤ a0.Ks))) && (decide ((wr .u32 (a0.Ks - a0.GK)) < 8)))) else (bif a0.J5 == 3 then ((gc (((a0.Qq != 0) && (a0.YA != 0)) && ((a0.Ye == 6) || (a0.Ye == 17))) (M.ZP a0.QR 0 65535)).bind fun r1 => (gc ((((a0.Qq != 0) && (a0.YA != 0)) && ((a0.Ye == 6) || (a0.Ye == 17))) && r1) (M.ZP a0.Ql 0 65535)).bind fun r2 => some ((((((((a0.Qq != 0) && (a0.YA != 0)) && ((a0.Ye == 6) || (a0.Ye == 17))) && r1) && r2) && (YJ a0.QX (⟨#[]⟩ : ByteArray))) && (a0.GK == 0)) && (a0.Ks == 0))) else (some false)))
noncomputable def M.JF (a0 : Zf) (p1 : Int) : Option (Int ⊕ (Unit ⊕ Int)) :=
  bif decide (p1 < (a0.Xf.length : Int)) then (gd [decide (0 ≤ p1), decide (p1 < (a0.Xf.length : Int))] ((M.Y1 (a0.Xf.getD p1.toNat default)).bind fun r3 => bif !r3 then (some (.inr (.inr 1))) else ((gc (((a0.Xf.getD p1.toNat default).J5) == 2) (M.V4 a0 ((a0.Xf.getD p1.toNat default).QX))).bind fun r4 => bif (((a0.Xf.getD p1.toNat default).J5) == 2) && (decide (r4 < 0)) then (some (.inr (.inr 5))) else (some (.inl (wr .i64 (p1 + 1))))))) else (some (.inr (.inl ())))
noncomputable def M.J9 (a0 : Zf) : Option Int :=
  bif decide ((a0.Xf.length : Int) > 8) then (some 7) else ((ZZ (M.JF a0) 0).bind fun y5 => Sum.elim (fun _ => some 0) (fun y7 => some y7) y5)
noncomputable def M.QQ (a0 : Zf) (p1 : Int) : Option (Int ⊕ (Unit ⊕ Int)) :=
  bif decide (p1 < (a0.Zc.length : Int)) then (gd [decide (0 ≤ p1), decide (p1 < (a0.Zc.length : Int))] ((gc (!strEq ((a0.Zc.getD p1.toNat default).V7) (⟨#[]⟩ : ByteArray)) (M.V4 a0 ((a0.Zc.getD p1.toNat default).V7))).bind fun r3 => (gc ((!((!strEq ((a0.Zc.getD p1.toNat default).V7) (⟨#[]⟩ : ByteArray)) && (decide (r3 < 0)))) && (!strEq ((a0.Zc.getD p1.toNat default).Y2) (⟨#[]⟩ : ByteArray))) (M.V4 a0 ((a0.Zc.getD p1.toNat default).Y2))).bind fun r4 => bif ((!strEq ((a0.Zc.getD p1.toNat default).V7) (⟨#[]⟩ : ByteArray)) && (decide (r3 < 0))) || ((!strEq ((a0.Zc.getD p1.toNat default).Y2) (⟨#[]⟩ : ByteArray)) && (decide (r4 < 0))) then (some (.inr (.inr 5))) else (some (.inl (wr .i64 (p1 + 1)))))) else (some (.inr (.inl ())))
noncomputable def M.Jk (a0 : Zf) : Option Int :=
  (ZZ (M.QQ a0) 0).bind fun y5 => Sum.elim (fun _ => some 0) (fun y7 => some y7) y5
noncomputable def M.VQ (a0 : Zy) (b0 : Int) : Option Bool :=
  some ((a0.ZJ != 0) && (a0.Zu == b0))
noncomputable def M.ZR (a0 : List Zy) (a1c0 : Int) (p1 : Int) : Option (Int ⊕ (Unit ⊕ Int)) :=
  bif decide (p1 < (a0.length : Int)) then ((M.VQ (a0.getD p1.toNat default) a1c0).bind fun r3 => gd [decide (0 ≤ p1), decide (p1 < (a0.length : Int))] (bif r3 then (some (.inr (.inr p1))) else (some (.inl (wr .i64 (p1 + 1)))))) else (some (.inr (.inl ())))
noncomputable def M.Z0 (a0 : List Zy) (a1c0 : Int) : Option Int :=
  (ZZ (M.ZR a0 a1c0) 0).bind fun y4 => Sum.elim (fun _ => some (-1)) (fun y6 => some y6) y4
noncomputable def M.Vi (a0 : Zf) (a1 : Int) : Option Int :=
  (M.Z0 a0.Zc a1).bind fun r1 => some r1
noncomputable def M.YK (p1 : Int × Int) (p3 : Int) : Option ((Int × Int) ⊕ Int) :=
  some (.inl (p3, wr .i64 (p1.2 + 1)))
noncomputable def M.Y6 (a1 : Yf) (p1 : Int × Int) : Option ((Int × Int) ⊕ Int) :=
  bif decide (p1.2 < 3) then (gd [decide (0 ≤ p1.2), decide (p1.2 < (([a1.Vu != 0, !strEq a1.QI (⟨#[]⟩ : ByteArray), a1.VH] : List Bool).length : Int))] (bif ([a1.Vu != 0, !strEq a1.QI (⟨#[]⟩ : ByteArray), a1.VH] : List Bool).getD p1.2.toNat default then (M.YK p1 (wr .i64 (p1.1 + 1))) else (M.YK p1 p1.1))) else (some (.inr p1.1))
noncomputable def M.QE (a0 : Zf) (a1 : Yf) : Option Bool :=
  (ZZ (M.Y6 a1) (0, 0)).bind fun y4 => (M.QW a1.Zp).bind fun r5 => (gc ((r5 && (y4 == 1)) && !(a1.Vu == 0)) (M.Vi a0 a1.Vu)).bind fun r6 => (gc ((r5 && (y4 == 1)) && ((a1.Vu == 0) || (decide (r6 < 0)))) (M.ZP a1.Xl 1 255)).bind fun r7 => (gc (((r5 && (y4 == 1)) && ((a1.Vu == 0) || (decide (r6 < 0)))) && r7) (M.ZP a1.Gk 0 65535)).bind fun r8 => some ((((r5 && (y4 == 1)) && ((a1.Vu == 0) || (decide (r6 < 0)))) && r7) && r8)
noncomputable def M.YP (a0 : Zf) (p1 : Int) (p5 : Int) : Option (Int ⊕ (Unit ⊕ Int)) :=
  bif decide (p5 < ((p1.toNat - 0 : Nat) : Int)) then (gd [decide (0 ≤ p5), decide (p5 < (((a0.Zq.drop 0).take (p1.toNat - 0)).length : Int))] (bif (((((((a0.Zq.drop 0).take (p1.toNat - 0)).getD p5.toNat default).Zp).Zu) == (((a0.Zq.getD p1.toNat default).Zp).Zu)) && (((((((a0.Zq.drop 0).take (p1.toNat - 0)).getD p5.toNat default).Zp).ZJ) == (((a0.Zq.getD p1.toNat default).Zp).ZJ)) && true)) && (((((a0.Zq.drop 0).take (p1.toNat - 0)).getD p5.toNat default).Xl) == ((a0.Zq.getD p1.toNat default).Xl)) then (some (.inr (.inr 6))) else (some (.inl (wr .i64 (p5 + 1)))))) else (some (.inr (.inl ())))
noncomputable def M.Yz (a0 : Zf) (p1 : Int) (_p4 : Unit) : Option (Int ⊕ (Unit ⊕ Int)) :=
  gd [decide (0 ≤ p1), decide (p1 ≤ (a0.Zq.length : Int))] ((ZZ (M.YP a0 p1) 0).bind fun y7 => Sum.elim (fun _ => some (.inl (wr .i64 (p1 + 1)))) (fun y9 => some (.inr (.inr y9))) y7)
noncomputable def M.Qn (a0 : Zf) (p1 : Int) : Option (Int ⊕ (Unit ⊕ Int)) :=
  bif decide (p1 < (a0.Zq.length : Int)) then (gd [decide (0 ≤ p1), decide (p1 < (a0.Zq.length : Int))] ((M.QE a0 (a0.Zq.getD p1.toNat default)).bind fun r3 => bif !r3 then (some (.inr (.inr 1))) else (bif !strEq ((a0.Zq.getD p1.toNat default).QI) (⟨#[]⟩ : ByteArray) then ((M.Qo a0 ((a0.Zq.getD p1.toNat default).QI)).bind fun r10 => bif decide (r10 < 0) then (some (.inr (.inr 5))) else (gd [decide (0 ≤ r10), decide (r10 < (a0.Zc.length : Int))] (bif ((a0.Zc.getD r10.toNat default).ZJ) == 0 then (some (.inr (.inr 1))) else (M.Yz a0 p1 ())))) else (M.Yz a0 p1 ())))) else (some (.inr (.inl ())))
noncomputable def M.QL (a0 : Zf) : Option Int :=
  bif decide ((a0.Zq.length : Int) > 16) then (some 7) else ((ZZ (M.Qn a0) 0).bind fun y11 => Sum.elim (fun _ => some 0) (fun y13 => some y13) y11)
noncomputable def M.Y7 (a1 : List YB) (p1 : Int) (p8 : Int) : Option (Int ⊕ (Unit ⊕ Int)) :=
  bif decide (p8 < ((p1.toNat - 0 : Nat) : Int)) then (gd [decide (0 ≤ p8), decide (p8 < (((a1.drop 0).take (p1.toNat - 0)).length : Int))] (bif ((((a1.drop 0).take (p1.toNat - 0)).getD p8.toNat default).WX) == ((a1.getD p1.toNat default).WX) then (some (.inr (.inr 4))) else (some (.inl (wr .i64 (p8 + 1)))))) else (some (.inr (.inl ())))
noncomputable def M.Qy (a0 : Zf) (a1 : List YB) (a2 : Int) (a3 : Int) (a4 : Int) (a5 : Int) (p1 : Int) : Option (Int ⊕ (Unit ⊕ Int)) :=
  bif decide (p1 < (a1.length : Int)) then (gd [decide (0 ≤ p1), decide (p1 < (a1.length : Int))] ((M.ZP ((a1.getD p1.toNat default).WX) 1 5).bind fun r3 => (gc (!((!r3) || (((a1.getD p1.toNat default).WX) == a2))) (M.ZP ((a1.getD p1.toNat default).Rj) a3 a4)).bind fun r4 => (gc (!(((!r3) || (((a1.getD p1.toNat default).WX) == a2)) || (!r4))) (M.ZP ((a1.getD p1.toNat default).Gk) 0 65535)).bind fun r5 => (gc (!((((!r3) || (((a1.getD p1.toNat default).WX) == a2)) || (!r4)) || (!r5))) (M.ZP ((a1.getD p1.toNat default).KG) (if a5 < 1 then a5 else 1) a5)).bind fun r6 => bif ((((!r3) || (((a1.getD p1.toNat default).WX) == a2)) || (!r4)) || (!r5)) || (!r6) then (some (.inr (.inr 1))) else ((gc (!strEq ((a1.getD p1.toNat default).Zad) (⟨#[]⟩ : ByteArray)) (M.Y4 a0 ((a1.getD p1.toNat default).Zad))).bind fun r7 => bif (!strEq ((a1.getD p1.toNat default).Zad) (⟨#[]⟩ : ByteArray)) && (decide (r7 < 0)) then (some (.inr (.inr 5))) else (gd [decide (0 ≤ p1), decide (p1 ≤ (a1.length : Int))] ((ZZ (M.Y7 a1 p1) 0).bind fun y10 => Sum.elim (fun _ => some (.inl (wr .i64 (p1 + 1)))) (fun y12 => some (.inr (.inr y12))) y10))))) else (some (.inr (.inl ())))
noncomputable def M.YG (a0 : Zf) (a1 : List YB) (a2 : Int) (a3 : Int) (a4 : Int) (a5 : Int) : Option Int :=
  bif decide ((a1.length : Int) > 4) then (some 7) else ((ZZ (M.Qy a0 a1 a2 a3 a4 a5) 0).bind fun y13 => Sum.elim (fun _ => some 0) (fun y15 => some y15) y13)
noncomputable def M.Yv (a0 : Zf) (p2 : Int) (p6 : Int) : Option (Int ⊕ (Unit ⊕ Int)) :=
  bif decide (p6 < ((p2.toNat - 0 : Nat) : Int)) then (gd [decide (0 ≤ p6), decide (p6 < (((a0.Yl.ZK.drop 0).take (p2.toNat - 0)).length : Int))] ((gc (((((a0.Yl.ZK.drop 0).take (p2.toNat - 0)).getD p6.toNat default).J7) == ((a0.Yl.ZK.getD p2.toNat default).J7)) (M.Vh ((((a0.Yl.ZK.drop 0).take (p2.toNat - 0)).getD p6.toNat default).Zp) ((a0.Yl.ZK.getD p2.toNat default).Zp))).bind fun r8 => bif (((((a0.Yl.ZK.drop 0).take (p2.toNat - 0)).getD p6.toNat default).J7) == ((a0.Yl.ZK.getD p2.toNat default).J7)) && r8 then (some (.inr (.inr 6))) else (some (.inl (wr .i64 (p6 + 1)))))) else (some (.inr (.inl ())))
noncomputable def M.YM (a0 : Zf) (p2 : Int) : Option (Int ⊕ (Unit ⊕ Int)) :=
  bif decide (p2 < (a0.Yl.ZK.length : Int)) then (gd [decide (0 ≤ p2), decide (p2 < (a0.Yl.ZK.length : Int))] ((M.ZP ((a0.Yl.ZK.getD p2.toNat default).J7) 0 255).bind fun r4 => (gc (!(!r4)) (M.QW ((a0.Yl.ZK.getD p2.toNat default).Zp))).bind fun r5 => bif (!r4) || (!r5) then (some (.inr (.inr 1))) else (gd [decide (0 ≤ p2), decide (p2 ≤ (a0.Yl.ZK.length : Int))] ((ZZ (M.Yv a0 p2) 0).bind fun y9 => Sum.elim (fun _ => some (.inl (wr .i64 (p2 + 1)))) (fun y11 => some (.inr (.inr y11))) y9)))) else (some (.inr (.inl ())))
noncomputable def M.Y8 (a0 : Zf) : Option Int :=
  bif !a0.Yl.WI then (bif ((a0.Yl.Xl != 0) || (decide ((a0.Yl.ZK.length : Int) > 0))) || (decide ((a0.Yl.Zv.length : Int) > 0)) then (some 1) else (some 0)) else ((M.ZP a0.Yl.Xl 1 255).bind fun r1 => bif !r1 then (some 1) else (bif decide ((a0.Yl.ZK.length : Int) > 4) then (some 7) else ((ZZ (M.YM a0) 0).bind fun y12 => Sum.elim (fun _ => (M.YG a0 a0.Yl.Zv 3 0 16777215 2).bind fun r15 => some r15) (fun y14 => some y14) y12)))
noncomputable def M.Yh (a0 : Zf) : Option Int :=
  bif !a0.YH.WI then (bif (((a0.YH.Xl != 0) || (!strEq a0.YH.V7 (⟨#[]⟩ : ByteArray))) || (!strEq a0.YH.Y2 (⟨#[]⟩ : ByteArray))) || (decide ((a0.YH.Zv.length : Int) > 0)) then (some 1) else (some 0)) else ((M.ZP a0.YH.Xl 1 255).bind fun r1 => bif !r1 then (some 1) else ((gc (!strEq a0.YH.V7 (⟨#[]⟩ : ByteArray)) (M.Yt a0 a0.YH.V7)).bind fun r2 => (gc ((!((!strEq a0.YH.V7 (⟨#[]⟩ : ByteArray)) && (decide (r2 < 0)))) && (!strEq a0.YH.Y2 (⟨#[]⟩ : ByteArray))) (M.Yt a0 a0.YH.Y2)).bind fun r3 => bif ((!strEq a0.YH.V7 (⟨#[]⟩ : ByteArray)) && (decide (r2 < 0))) || ((!strEq a0.YH.Y2 (⟨#[]⟩ : ByteArray)) && (decide (r3 < 0))) then (some 5) else ((M.YG a0 a0.YH.Zv 4 1 15 0).bind fun r4 => some r4)))
noncomputable def M.Yw (a0 : Zf) (p1 : Int) (p6 : Int) : Option (Int ⊕ (Unit ⊕ Int)) :=
  bif decide (p6 < ((p1.toNat - 0 : Nat) : Int)) then (gd [decide (0 ≤ p6), decide (p6 < (((a0.Xd.Zl.drop 0).take (p1.toNat - 0)).length : Int))] (bif ((((a0.Xd.Zl.drop 0).take (p1.toNat - 0)).getD p6.toNat default).Zu) == ((a0.Xd.Zl.getD p1.toNat default).Zu) then (some (.inr (.inr 4))) else (some (.inl (wr .i64 (p6 + 1)))))) else (some (.inr (.inl ())))
noncomputable def M.YN (a0 : Zf) (p1 : Int) : Option (Int ⊕ (Unit ⊕ Int)) :=
  bif decide (p1 < (a0.Xd.Zl.length : Int)) then (gd [decide (0 ≤ p1), decide (p1 < (a0.Xd.Zl.length : Int))] ((gc (!(((a0.Xd.Zl.getD p1.toNat default).Zu) == 0)) (M.ZP ((a0.Xd.Zl.getD p1.toNat default).Kt) 1 65535)).bind fun r3 => bif (((a0.Xd.Zl.getD p1.toNat default).Zu) == 0) || (!r3) then (some (.inr (.inr 1))) else ((gc (!strEq ((a0.Xd.Zl.getD p1.toNat default).V7) (⟨#[]⟩ : ByteArray)) (M.Y4 a0 ((a0.Xd.Zl.getD p1.toNat default).V7))).bind fun r4 => (gc ((!((!strEq ((a0.Xd.Zl.getD p1.toNat default).V7) (⟨#[]⟩ : ByteArray)) && (decide (r4 < 0)))) && (!strEq ((a0.Xd.Zl.getD p1.toNat default).Y2) (⟨#[]⟩ : ByteArray))) (M.Y4 a0 ((a0.Xd.Zl.getD p1.toNat default).Y2))).bind fun r5 => bif ((!strEq ((a0.Xd.Zl.getD p1.toNat default).V7) (⟨#[]⟩ : ByteArray)) && (decide (r4 < 0))) || ((!strEq ((a0.Xd.Zl.getD p1.toNat default).Y2) (⟨#[]⟩ : ByteArray)) && (decide (r5 < 0))) then (some (.inr (.inr 5))) else (gd [decide (0 ≤ p1), decide (p1 ≤ (a0.Xd.Zl.length : Int))] ((ZZ (M.Yw a0 p1) 0).bind fun y8 => Sum.elim (fun _ => some (.inl (wr .i64 (p1 + 1)))) (fun y10 => some (.inr (.inr y10))) y8))))) else (some (.inr (.inl ())))
noncomputable def M.Y9 (a0 : Zf) : Option Int :=
  bif decide ((a0.Xd.Zl.length : Int) > 8) then (some 7) else ((ZZ (M.YN a0) 0).bind fun y11 => Sum.elim (fun _ => some 0) (fun y13 => some y13) y11)
noncomputable def M.XO (a0 : List ZL) (a1 : ZL) (p1 : Int) : Option (Int ⊕ (Unit ⊕ Int)) :=
  bif decide (p1 < (a0.length : Int)) then (gd [decide (0 ≤ p1), decide (p1 < (a0.length : Int))] (bif ((a1.Zu == ((a0.getD p1.toNat default).Zu)) && ((a1.ZJ == ((a0.getD p1.toNat default).ZJ)) && true)) then (some (.inr (.inr p1))) else (some (.inl (wr .i64 (p1 + 1)))))) else (some (.inr (.inl ())))
noncomputable def M.XM (a0 : List ZL) (a1 : ZL) : Option Int :=
  (ZZ (M.XO a0 a1) 0).bind fun y3 => Sum.elim (fun _ => some (-1)) (fun y5 => some y5) y3
noncomputable def M.Xq (a0 : List ZL) (a1 : ZL) : Option Bool :=
  (M.XM a0 a1).bind fun r1 => some (decide (r1 ≥ 0))
noncomputable def M.YQ (a0 : Z6) (p1 : Int) : Option (Int ⊕ (Unit ⊕ Int)) :=
  bif decide (p1 < (a0.Zt.length : Int)) then (gd [decide (0 ≤ p1), decide (p1 < (a0.Zt.length : Int))] ((M.QW (a0.Zt.getD p1.toNat default)).bind fun r3 => bif !r3 then (some (.inr (.inr 1))) else ((M.Xq ((a0.Zt.drop 0).take (p1.toNat - 0)) (a0.Zt.getD p1.toNat default)).bind fun r4 => gd [decide (0 ≤ p1), decide (p1 ≤ (a0.Zt.length : Int))] (bif r4 then (some (.inr (.inr 4))) else (some (.inl (wr .i64 (p1 + 1)))))))) else (some (.inr (.inl ())))
noncomputable def M.YR (a0 : Z6) (p8 : Int) (p11 : Int) : Option (Int ⊕ (Unit ⊕ Int)) :=
  bif decide (p11 < ((p8.toNat - 0 : Nat) : Int)) then (gd [decide (0 ≤ p11), decide (p11 < (((a0.Zr.drop 0).take (p8.toNat - 0)).length : Int))] (bif (((((((a0.Zr.drop 0).take (p8.toNat - 0)).getD p11.toNat default).Zp).Zu) == (((a0.Zr.getD p8.toNat default).Zp).Zu)) && (((((((a0.Zr.drop 0).take (p8.toNat - 0)).getD p11.toNat default).Zp).ZJ) == (((a0.Zr.getD p8.toNat default).Zp).ZJ)) && true)) then (some (.inr (.inr 4))) else (some (.inl (wr .i64 (p11 + 1)))))) else (some (.inr (.inl ())))
noncomputable def M.YS (a0 : Z6) (p8 : Int) : Option (Int ⊕ (Unit ⊕ Int)) :=
  bif decide (p8 < (a0.Zr.length : Int)) then (gd [decide (0 ≤ p8), decide (p8 < (a0.Zr.length : Int))] ((M.QW ((a0.Zr.getD p8.toNat default).Zp)).bind fun r10 => bif !r10 then (some (.inr (.inr 1))) else (gd [decide (0 ≤ p8), decide (p8 ≤ (a0.Zr.length : Int))] ((ZZ (M.YR a0 p8) 0).bind fun y13 => Sum.elim (fun _ => some (.inl (wr .i64 (p8 + 1)))) (fun y15 => some (.inr (.inr y15))) y13)))) else (some (.inr (.inl ())))
noncomputable def M.YT (a0 : Z6) (p19 : Int) (p23 : Int) : Option (Int ⊕ (Unit ⊕ Int)) :=
  bif decide (p23 < ((p19.toNat - 0 : Nat) : Int)) then (gd [decide (0 ≤ p23), decide (p23 < (((a0.Zo.drop 0).take (p19.toNat - 0)).length : Int))] (bif (((((((a0.Zo.drop 0).take (p19.toNat - 0)).getD p23.toNat default).Zp).Zu) == (((a0.Zo.getD p19.toNat default).Zp).Zu)) && (((((((a0.Zo.drop 0).take (p19.toNat - 0)).getD p23.toNat default).Zp).ZJ) == (((a0.Zo.getD p19.toNat default).Zp).ZJ)) && true)) then (some (.inr (.inr 4))) else (some (.inl (wr .i64 (p23 + 1)))))) else (some (.inr (.inl ())))
noncomputable def M.YU (a0 : Z6) (p19 : Int) : Option (Int ⊕ (Unit ⊕ Int)) :=
  bif decide (p19 < (a0.Zo.length : Int)) then (gd [decide (0 ≤ p19), decide (p19 < (a0.Zo.length : Int))] ((M.QW ((a0.Zo.getD p19.toNat default).Zp)).bind fun r21 => (gc (!(!r21)) (M.QW ((a0.Zo.getD p19.toNat default).fIf))).bind fun r22 => bif (!r21) || (!r22) then (some (.inr (.inr 1))) else (bif (((((a0.Zo.getD p19.toNat default).Zp).Zu) == (((a0.Zo.getD p19.toNat default).fIf).Zu)) && (((((a0.Zo.getD p19.toNat default).Zp).ZJ) == (((a0.Zo.getD p19.toNat default).fIf).ZJ)) && true)) then (some (.inr (.inr 6))) else (gd [decide (0 ≤ p19), decide (p19 ≤ (a0.Zo.length : Int))] ((ZZ (M.YT a0 p19) 0).bind fun y25 => Sum.elim (fun _ => some (.inl (wr .i64 (p19 + 1)))) (fun y27 => some (.inr (.inr y27))) y25))))) else (some (.inr (.inl ())))
noncomputable def M.QM (a0 : Z6) : Option Int :=
  bif decide ((a0.Zt.length : Int) > 8) then (some 7) else ((ZZ (M.YQ a0) 0).bind fun y5 => Sum.elim (fun _ => bif decide ((a0.Zr.length : Int) > 8) then (some 7) else ((ZZ (M.YS a0) 0).bind fun y16 => Sum.elim (fun _ => bif decide ((a0.Zo.length : Int) > 8) then (some 7) else ((ZZ (M.YU a0) 0).bind fun y28 => Sum.elim (fun _ => some 0) (fun y30 => some y30) y28)) (fun y18 => some y18) y16)) (fun y7 => some y7) y5)
noncomputable def M.YV (a0 : Zf) : Option Int :=
  bif !a0.Xd.WI then (bif ((((((a0.Xd.X7 != 0) || (a0.Xd.X8 != 0)) || (decide ((a0.Xd.Zl.length : Int) > 0))) || (decide ((a0.Xd.Zt.length : Int) > 0))) || (decide ((a0.Xd.Zr.length : Int) > 0))) || (decide ((a0.Xd.Zo.length : Int) > 0))) || (decide ((a0.Xd.Zv.length : Int) > 0)) then (some 1) else (some 0)) else ((gc (!(a0.Kt == 0)) (M.ZP a0.Xd.X7 1 255)).bind fun r1 => (gc (!((a0.Kt == 0) || (!r1))) (M.ZP a0.Xd.X8 1 255)).bind fun r2 => bif ((a0.Kt == 0) || (!r1)) || (!r2) then (some 1) else ((M.Y9 a0).bind fun r3 => bif r3 != 0 then (some r3) else ((M.QM a0.Xd).bind fun r4 => bif r4 != 0 then (some r4) else ((M.YG a0 a0.Xd.Zv 5 0 16777215 0).bind fun r5 => some r5))))
noncomputable def M.Q5 (a0 : Zf) : Option Int :=
  (M.Ww a0.ZX).bind fun r1 => bif !r1 then (some 3) else ((M.ZP a0.Kt 0 65535).bind fun r2 => bif !r2 then (some 1) else (gd [decide (0 ≤ 0), decide (0 < (10 : Int))] ((M.YO a0).bind fun r3 => bif r3 != 0 then (some r3) else (gd [decide (0 ≤ 1), decide (1 < (10 : Int))] ((M.YF a0).bind fun r4 => bif r4 != 0 then (some r4) else (gd [decide (0 ≤ 2), decide (2 < (10 : Int))] ((M.Y5 a0).bind fun r5 => bif r5 != 0 then (some r5) else (gd [decide (0 ≤ 3), decide (3 < (10 : Int))] ((M.JT a0).bind fun r6 => bif r6 != 0 then (some r6) else (gd [decide (0 ≤ 4), decide (4 < (10 : Int))] ((M.J9 a0).bind fun r7 => bif r7 != 0 then (some r7) else (gd [decide (0 ≤ 5), decide (5 < (10 : Int))] ((M.Jk a0).bind fun r8 => bif r8 != 0 then (some r8) else (gd [decide (0 ≤ 6), decide (6 < (10 : Int))] ((M.QL a0).bind fun r9 => bif r9 != 0 then (some r9) else (gd [decide (0 ≤ 7), decide (7 < (10 : Int))] ((M.Y8 a0).bind fun r10 => bif r10 != 0 then (some r10) else (gd [decide (0 ≤ 8), decide (8 < (10 : Int))] ((M.Yh a0).bind fun r11 => bif r11 != 0 then (some r11) else (gd [decide (0 ≤ 9), decide (9 < (10 : Int))] ((M.YV a0).bind fun r12 => bif r12 != 0 then (some r12) else (some 0))))))))))))))))))))))
noncomputable def M.Qa (a0 : Zy) (b0 : Zf) : Option Bool :=
  (gc (a0.ZJ != 0) (M.Vi b0 a0.Zu)).bind fun r1 => some ((a0.ZJ != 0) && (decide (r1 ≥ 0)))
noncomputable def M.ZH (a0 : List Zy) (a1c0 : Zf) (p1 : Int) : Option (Int ⊕ (Unit ⊕ Int)) :=
  bif decide (p1 < (a0.length : Int)) then ((M.Qa (a0.getD p1.toNat default) a1c0).bind fun r3 => gd [decide (0 ≤ p1), decide (p1 < (a0.length : Int))] (bif r3 then (some (.inr (.inr p1))) else (some (.inl (wr .i64 (p1 + 1)))))) else (some (.inr (.inl ())))
noncomputable def M.ZN (a0 : List Zy) (a1c0 : Zf) : Option Int :=
  (ZZ (M.ZH a0 a1c0) 0).bind fun y4 => Sum.elim (fun _ => some (-1)) (fun y6 => some y6) y4
noncomputable def M.ZI (a0 : List Zy) (a1c0 : Zf) : Option Bool :=
  (M.ZN a0 a1c0).bind fun r1 => some (decide (r1 ≥ 0))
noncomputable def M.Jl (a0 : Zf) (a1 : Zf) : Option Bool :=
  (M.ZI a1.Zc a0).bind fun r1 => some r1
noncomputable def M.Va (a0 : ZY) (p1 : Int) (p4 : Int) : Option (Int ⊕ (Unit ⊕ Int)) :=
  bif decide (p4 < ((p1.toNat - 0 : Nat) : Int)) then (gd [decide (0 ≤ p4), decide (p4 < (((a0.Zd.drop 0).take (p1.toNat - 0)).length : Int))] ((gc (!(YJ ((((a0.Zd.drop 0).take (p1.toNat - 0)).getD p4.toNat default).ZX) ((a0.Zd.getD p1.toNat default).ZX))) (M.Jl (((a0.Zd.drop 0).take (p1.toNat - 0)).getD p4.toNat default) (a0.Zd.getD p1.toNat default))).bind fun r6 => bif (YJ ((((a0.Zd.drop 0).take (p1.toNat - 0)).getD p4.toNat default).ZX) ((a0.Zd.getD p1.toNat default).ZX)) || r6 then (some (.inr (.inr 4))) else (some (.inl (wr .i64 (p4 + 1)))))) else (some (.inr (.inl ())))
noncomputable def M.VI (a0 : ZY) (p1 : Int) : Option (Int ⊕ (Unit ⊕ Int)) :=
  bif decide (p1 < (a0.Zd.length : Int)) then (gd [decide (0 ≤ p1), decide (p1 < (a0.Zd.length : Int))] ((M.Q5 (a0.Zd.getD p1.toNat default)).bind fun r3 => bif r3 != 0 then (some (.inr (.inr r3))) else (gd [decide (0 ≤ p1), decide (p1 ≤ (a0.Zd.length : Int))] ((ZZ (M.Va a0 p1) 0).bind fun y7 => Sum.elim (fun _ => some (.inl (wr .i64 (p1 + 1)))) (fun y9 => some (.inr (.inr y9))) y7)))) else (some (.inr (.inl ())))
noncomputable def M.QS (a0 : ZY) : Option Int :=
  bif decide ((a0.Zd.length : Int) > 8) then (some 7) else ((ZZ (M.VI a0) 0).bind fun y10 => Sum.elim (fun _ => some 0) (fun y12 => some y12) y10)
noncomputable def M.Q6 (i : Int) (p : (List Zk) × (List (Z9 × Int)) × Int) (q : (List Zk) × (List (Z9 × Int)) × Int) : Option (((List Zk) × (List (Z9 × Int)) × Int) ⊕ ((List Zk) × (List (Z9 × Int)))) :=
  gd [decide (0 ≤ q.2.2), decide (q.2.2 < (q.1.length : Int)), decide (((q.1.getD (0 + q.2.2.toNat) default).Xh.length + 1) * 16 ≤ 140737488355328)] (some (.inl (q.1.set (0 + q.2.2.toNat) ⟨(q.1.getD (0 + q.2.2.toNat) default).Zp, (q.1.getD (0 + q.2.2.toNat) default).Xu, (q.1.getD (0 + q.2.2.toNat) default).Xh ++ [⟨i, p.2.2⟩]⟩, q.2.1, wr .i64 (p.2.2 + 1))))
noncomputable def M.QZ (a0 : ZY) (i : Int) (p : (List Zk) × (List (Z9 × Int)) × Int) : Option (((List Zk) × (List (Z9 × Int)) × Int) ⊕ ((List Zk) × (List (Z9 × Int)))) :=
  bif decide (p.2.2 < (((a0.Zd.getD i.toNat default).Zc).length : Int)) then (gd [decide (0 ≤ p.2.2), decide (p.2.2 < (((a0.Zd.getD i.toNat default).Zc).length : Int))] (bif (((a0.Zd.getD i.toNat default).Zc.getD p.2.2.toNat default).ZJ == 0) || ((a0.Zd.getD i.toNat default).Zc.getD p.2.2.toNat default).R0 then (some (.inl (p.1, p.2.1, wr .i64 (p.2.2 + 1)))) else ((M.Y0 ((a0.Zd.getD i.toNat default).Zc.getD p.2.2.toNat default).Zu ((a0.Zd.getD i.toNat default).Zc.getD p.2.2.toNat default).ZJ).bind fun r => bif !(lkM (Vn ⟨r, ((a0.Zd.getD i.toNat default).Zc.getD p.2.2.toNat default).Xu⟩) p.2.1).2 then (gd [decide ((p.1.length + 1) * 48 ≤ 140737488355328)] (M.Q6 i p (p.1 ++ [⟨r, ((a0.Zd.getD i.toNat default).Zc.getD p.2.2.toNat default).Xu, []⟩], p.2.1 ++ [(⟨r, ((a0.Zd.getD i.toNat default).Zc.getD p.2.2.toNat default).Xu⟩, (p.1.length : Int))], (p.1.length : Int)))) else (M.Q6 i p (p.1, p.2.1, (lkM (Vn ⟨r, ((a0.Zd.getD i.toNat default).Zc.getD p.2.2.toNat default).Xu⟩) p.2.1).1))))) else (some (.inr (p.1, p.2.1)))
noncomputable def M.Jt (a0 : ZY) (p : (List Zk) × (List (Z9 × Int)) × Int) : Option (((List Zk) × (List (Z9 × Int)) × Int) ⊕ (List Zk)) :=
  bif decide (p.2.2 < (a0.Zd.length : Int)) then (gd [decide (0 ≤ p.2.2), decide (p.2.2 < (a0.Zd.length : Int))] ((ZZ (M.QZ a0 p.2.2) (p.1, p.2.1, 0)).bind fun y => some (.inl (y.1, y.2, wr .i64 (p.2.2 + 1))))) else (some (.inr p.1))
noncomputable def M.Wk (a0 : ZY) : Option (List Zk) :=
  (ZZ (M.Jt a0) ([], [], 0)).bind fun y => some y
noncomputable def M.QC (a0 : Int) : Option Bool :=
  some (a0 != a0)
noncomputable def M.QN (a0 : Int) (a1 : Int) : Option Int :=
  (M.QC a0).bind fun r1 => (M.QC a1).bind fun r2 => bif r1 then (bif r2 then (some 0) else (some (-1))) else (bif r2 then (some 1) else (bif decide (a0 < a1) then (some (-1)) else (bif decide (a0 > a1) then (some 1) else (some 0))))
noncomputable def M.JZ (a0 : Int) : Option Bool :=
  some (a0 != a0)
noncomputable def M.Q0 (a0 : Int) (a1 : Int) : Option Int :=
  (M.JZ a0).bind fun r1 => (M.JZ a1).bind fun r2 => bif r1 then (bif r2 then (some 0) else (some (-1))) else (bif r2 then (some 1) else (bif decide (a0 < a1) then (some (-1)) else (bif decide (a0 > a1) then (some 1) else (some 0))))
noncomputable def M.Wl (a0 : ZL) (a1 : ZL) : Option Int :=
  (M.QN a0.Zu a1.Zu).bind fun r1 => bif r1 != 0 then (some r1) else ((M.Q0 a0.ZJ a1.ZJ).bind fun r2 => some r2)
noncomputable def M.JG (a0 : List Int) (p1 : Int) : Option (Int ⊕ (Unit ⊕ Int)) :=
  bif decide (p1 < (a0.length : Int)) then (gd [decide (0 ≤ p1), decide (p1 < (a0.length : Int))] (bif (a0.getD p1.toNat default) != 0 then (some (.inr (.inr (a0.getD p1.toNat default)))) else (some (.inl (wr .i64 (p1 + 1)))))) else (some (.inr (.inl ())))
noncomputable def M.W4 (a0 : List Int) : Option Int :=
  (ZZ (M.JG a0) 0).bind fun y3 => Sum.elim (fun _ => some 0) (fun y5 => some y5) y3
noncomputable def M.VR (a0 : Zk) (a1 : Zk) : Option Int :=
  (M.Wl a0.Zp a1.Zp).bind fun r1 => (M.Q0 a0.Xu a1.Xu).bind fun r2 => (M.W4 ([r1, r2] : List Int)).bind fun r3 => some r3
noncomputable def M.Xz (a0 : List Zk) : Option (List Zk) :=
  Zhp M.VR a0
noncomputable def M.J0 (p5 : (List Int) × Int) (p7 : (List Int)) : Option (((List Int) × Int) ⊕ (List Int)) :=
  some (.inl (p7, wr .i64 (p5.2 + 1)))
noncomputable def M.Vj (r3 : (List Zk)) (p5 : (List Int) × Int) : Option (((List Int) × Int) ⊕ (List Int)) :=
  bif decide (p5.2 < (r3.length : Int)) then (gd [decide (0 ≤ p5.2), decide (p5.2 < (r3.length : Int))] (bif decide ((((r3.getD p5.2.toNat default).Xh).length : Int) ≥ 2) then (gd [decide ((p5.1.length + 1) * 8 ≤ 140737488355328)] (M.J0 p5 (p5.1 ++ [p5.2]))) else (M.J0 p5 p5.1))) else (some (.inr p5.1))
noncomputable def M.Wx (a0 : ZY) : Option (QB × Int) :=
  (M.QS a0).bind fun r1 => bif r1 != 0 then (some ((⟨([] : List Zk), ([] : List Int)⟩ : QB), r1)) else ((M.Wk a0).bind fun r2 => (M.Xz r2).bind fun r3 => gd [decide (r3.length = r2.length)] ((ZZ (M.Vj r3) (([] : List Int), 0)).bind fun y8 => bif decide ((y8.length : Int) > 12) then (some ((⟨([] : List Zk), ([] : List Int)⟩ : QB), 7)) else (some ((⟨r3, y8⟩ : QB), 0))))
noncomputable def M.Vy (a0 : Int) : Option Bool :=
  some (((decide (a0 ≥ 97)) && (decide (a0 ≤ 122))) || ((decide (a0 ≥ 65)) && (decide (a0 ≤ 90))))
noncomputable def M.Wm (a0 : ByteArray) (p2 : Int) : Option (Int ⊕ (Unit ⊕ Bool)) :=
  bif decide (p2 < (a0.size : Int)) then (gd [decide (0 ≤ p2), decide (p2 < (a0.size : Int))] ((M.Vy (JN a0 p2)).bind fun r4 => bif (((((!r4) && (!((decide ((JN a0 p2) ≥ 48)) && (decide ((JN a0 p2) ≤ 57))))) && ((JN a0 p2) != 45)) && ((JN a0 p2) != 95)) && ((JN a0 p2) != 47)) && ((JN a0 p2) != 46) then (some (.inr (.inr false))) else (some (.inl (wr .i64 (p2 + 1)))))) else (some (.inr (.inl ())))
noncomputable def M.Jn (a0 : ByteArray) : Option Bool :=
  (gc (!((decide ((a0.size : Int) < 1)) || (decide ((a0.size : Int) > 15)))) (M.Vy (JN a0 0))).bind fun r1 => gd [Ys (!((decide ((a0.size : Int) < 1)) || (decide ((a0.size : Int) > 15)))) (decide (0 ≤ 0)), Ys (!((decide ((a0.size : Int) < 1)) || (decide ((a0.size : Int) > 15)))) (decide (0 < (a0.size : Int)))] (bif ((decide ((a0.size : Int) < 1)) || (decide ((a0.size : Int) > 15))) || (!r1) then (some false) else ((ZZ (M.Wm a0) 1).bind fun y5 => Sum.elim (fun _ => some true) (fun y7 => some y7) y5))
noncomputable def M.Zz (a0 : Int) (a1 : Int) (a2 : Int) : Option Bool :=
  some ((decide (a1 ≤ a0)) && (decide (a0 ≤ a2)))
noncomputable def M.Ku (p1 : Int × Int) (p3 : Int) : Option ((Int × Int) ⊕ Int) :=
  some (.inl (p3, wr .i64 (p1.2 + 1)))
noncomputable def M.UX (a0 : Int) (p1 : Int × Int) : Option ((Int × Int) ⊕ Int) :=
  bif decide (p1.2 < 32) then (bif decide (p1.2 < a0) then (gd [decide (0 ≤ (wr .u64 (wr .i64 (31 - p1.2))))] (M.Ku p1 (Uc .or .u32 p1.1 (wr .u32 (1 * 2 ^ min (wr .u64 (wr .i64 (31 - p1.2))).toNat 32))))) else (M.Ku p1 p1.1)) else (some (.inr p1.1))
noncomputable def M.VE (a0 : Int) : Option Int :=
  (ZZ (M.UX a0) (0, 0)).bind fun y4 => some y4
noncomputable def M.Q7 (a0 : Int) (a1 : Int) : Option ZL :=
  (M.VE (if 0 > (if 32 < a1 then 32 else a1) then 0 else (if 32 < a1 then 32 else a1))).bind fun r1 => some (⟨Uc .and .u32 a0 r1, if 0 > (if 32 < a1 then 32 else a1) then 0 else (if 32 < a1 then 32 else a1)⟩ : ZL)
noncomputable def M.WD (a0 : ZL) (a1 : Int) : Option Bool :=
  (M.VE a0.ZJ).bind fun r1 => some ((Uc .and .u32 a1 r1) == a0.Zu)
noncomputable def M.WL (a0 : ZL) (a1 : ZL) : Option Bool :=
  (gc (decide (a0.ZJ ≤ a1.ZJ)) (M.WD a0 a1.Zu)).bind fun r1 => some ((decide (a0.ZJ ≤ a1.ZJ)) && r1)
noncomputable def M.Vk (a0 : ZL) (a1 : ZL) : Option Bool :=
  (M.WL a0 a1).bind fun r1 => (gc (!r1) (M.WL a1 a0)).bind fun r2 => some (r1 || r2)
noncomputable def M.Jm (a0 : List Zy) (p1 : Int) (p4 : Int) : Option (Int ⊕ (Unit ⊕ Int)) :=
  bif decide (p4 < p1) then (gd [decide (0 ≤ p4), decide (p4 < (a0.length : Int))] (bif YJ ((a0.getD p4.toNat default).ZX) ((a0.getD p1.toNat default).ZX) then (some (.inr (.inr 4))) else (some (.inl (wr .i64 (p4 + 1)))))) else (some (.inr (.inl ())))
noncomputable def M.Qp (a0 : List Zy) (p1 : Int) (p14 : Int) : Option (Int ⊕ (Unit ⊕ Int)) :=
  bif decide (p14 < p1) then ((gc ((((a0.getD p1.toNat default).ZJ) != 0) && (((a0.getD p14.toNat default).ZJ) != 0)) (M.Q7 ((a0.getD p1.toNat default).Zu) ((a0.getD p1.toNat default).ZJ))).bind fun r16 => (gc ((((a0.getD p1.toNat default).ZJ) != 0) && (((a0.getD p14.toNat default).ZJ) != 0)) (M.Q7 ((a0.getD p14.toNat default).Zu) ((a0.getD p14.toNat default).ZJ))).bind fun r17 => (gc ((((a0.getD p1.toNat default).ZJ) != 0) && (((a0.getD p14.toNat default).ZJ) != 0)) (M.Vk r16 r17)).bind fun r18 => gd [Ys (((a0.getD p1.toNat default).ZJ) != 0) (decide (0 ≤ p14)), Ys (((a0.getD p1.toNat default).ZJ) != 0) (decide (p14 < (a0.length : Int))), Ys ((((a0.getD p1.toNat default).ZJ) != 0) && (((a0.getD p14.toNat default).ZJ) != 0)) (decide (0 ≤ p14)), Ys ((((a0.getD p1.toNat default).ZJ) != 0) && (((a0.getD p14.toNat default).ZJ) != 0)) (decide (p14 < (a0.length : Int))), Ys ((((a0.getD p1.toNat default).ZJ) != 0) && (((a0.getD p14.toNat default).ZJ) != 0)) (decide (0 ≤ p14)), Ys ((((a0.getD p1.toNat default).ZJ) != 0) && (((a0.getD p14.toNat default).ZJ) != 0)) (decide (p14 < (a0.length : Int)))] (bif ((((a0.getD p1.toNat default).ZJ) != 0) && (((a0.getD p14.toNat default).ZJ) != 0)) && r18 then (some (.inr (.inr 6))) else (some (.inl (wr .i64 (p14 + 1)))))) else (some (.inr (.inl ())))
noncomputable def M.QO (a0 : List Zy) (p1 : Int) : Option (Int ⊕ (Unit ⊕ Int)) :=
  bif decide (p1 < (a0.length : Int)) then (gd [decide (0 ≤ p1), decide (p1 < (a0.length : Int))] ((M.Jn ((a0.getD p1.toNat default).ZX)).bind fun r3 => bif !r3 then (some (.inr (.inr 3))) else ((ZZ (M.Jm a0 p1) 0).bind fun y6 => Sum.elim (fun _ => (M.Zz ((a0.getD p1.toNat default).ZJ) 0 32).bind fun r9 => (gc (!(!r9)) (M.Zz ((a0.getD p1.toNat default).Xu) 0 4094)).bind fun r10 => (gc (!((!r9) || (!r10))) (M.Zz ((a0.getD p1.toNat default).Zau) 0 2)).bind fun r11 => bif ((!r9) || (!r10)) || (!r11) then (some (.inr (.inr 1))) else (bif ((((a0.getD p1.toNat default).ZJ) == 0) && (((((((((a0.getD p1.toNat default).Zu) != 0) || (((a0.getD p1.toNat default).Xu) != 0)) || (((a0.getD p1.toNat default).Zau) != 0)) || ((a0.getD p1.toNat default).Yl)) || ((a0.getD p1.toNat default).YH)) || (!strEq ((a0.getD p1.toNat default).V7) (⟨#[]⟩ : ByteArray))) || (!strEq ((a0.getD p1.toNat default).Y2) (⟨#[]⟩ : ByteArray)))) || ((((a0.getD p1.toNat default).ZJ) != 0) && (((a0.getD p1.toNat default).Zu) == 0)) then (some (.inr (.inr 1))) else ((gc ((a0.getD p1.toNat default).Yl) (M.Zz ((a0.getD p1.toNat default).J7) 0 255)).bind fun r12 => (gc (((a0.getD p1.toNat default).Yl) && !(!r12)) (M.Zz ((a0.getD p1.toNat default).R1) 1 65535)).bind fun r13 => bif (((a0.getD p1.toNat default).Yl) && ((!r12) || (!r13))) || ((!((a0.getD p1.toNat default).Yl)) && ((((a0.getD p1.toNat default).J7) != 0) || (((a0.getD p1.toNat default).R1) != 0))) then (some (.inr (.inr 1))) else ((ZZ (M.Qp a0 p1) 0).bind fun y19 => Sum.elim (fun _ => some (.inl (wr .i64 (p1 + 1)))) (fun y21 => some (.inr (.inr y21))) y19)))) (fun y8 => some (.inr (.inr y8))) y6))) else (some (.inr (.inl ())))
noncomputable def M.Ju (a0 : List Zy) : Option Int :=
  bif decide ((a0.length : Int) > 8) then (some 7) else ((ZZ (M.QO a0) 0).bind fun y22 => Sum.elim (fun _ => some 0) (fun y24 => some y24) y22)
noncomputable def M.YW (a0 : ZL) : Option Bool :=
  (gc ((decide (a0.ZJ ≥ 0)) && (decide (a0.ZJ ≤ 32))) (M.VE a0.ZJ)).bind fun r1 => some (((decide (a0.ZJ ≥ 0)) && (decide (a0.ZJ ≤ 32))) && ((Uc .andNot .u32 a0.Zu r1) == 0))
noncomputable def M.Qz (a0 : Gt) : Option Bool :=
  (M.YW a0.Zp).bind fun r1 => some (((r1 && (decide (a0.Zp.ZJ ≤ a0.Zc5))) && (decide (a0.Zc5 ≤ a0.Zc6))) && (decide (a0.Zc6 ≤ 32)))
noncomputable def M.QU (a0 : List Z3) (p1 : Int) (p4 : Int) : Option (Int ⊕ (Unit ⊕ Int)) :=
  bif decide (p4 < p1) then (gd [decide (0 ≤ p4), decide (p4 < (a0.length : Int)), decide (0 ≤ p1), decide (p1 < (a0.length : Int))] (bif YJ ((a0.getD p4.toNat default).ZX) ((a0.getD p1.toNat default).ZX) then (some (.inr (.inr 4))) else (some (.inl (wr .i64 (p4 + 1)))))) else (some (.inr (.inl ())))
noncomputable def M.Qr (a0 : List Z3) (p1 : Int) (p9 : Int) : Option (Int ⊕ (Unit ⊕ Int)) :=
  gd [decide (0 ≤ p1), decide (p1 < (a0.length : Int))] (bif decide (p9 < (((a0.getD p1.toNat default).XC).length : Int)) then ((M.Qz (((a0.getD p1.toNat default).XC).getD p9.toNat default)).bind fun r11 => gd [decide (0 ≤ p1), decide (p1 < (a0.length : Int)), decide (0 ≤ p9), decide (p9 < (((a0.getD p1.toNat default).XC).length : Int))] (bif !r11 then (some (.inr (.inr 1))) else (some (.inl (wr .i64 (p9 + 1)))))) else (some (.inr (.inl ()))))
noncomputable def M.Qs (a0 : List Z3) (p1 : Int) : Option (Int ⊕ (Unit ⊕ Int)) :=
  bif decide (p1 < (a0.length : Int)) then ((M.Jn ((a0.getD p1.toNat default).ZX)).bind fun r3 => gd [decide (0 ≤ p1), decide (p1 < (a0.length : Int))] (bif !r3 then (some (.inr (.inr 3))) else ((ZZ (M.QU a0 p1) 0).bind fun y6 => Sum.elim (fun _ => gd [decide (0 ≤ p1), decide (p1 < (a0.length : Int))] (bif (((a0.getD p1.toNat default).XC).length : Int) == 0 then (some (.inr (.inr 1))) else (gd [decide (0 ≤ p1), decide (p1 < (a0.length : Int))] (bif decide ((((a0.getD p1.toNat default).XC).length : Int) > 16) then (some (.inr (.inr 7))) else ((ZZ (M.Qr a0 p1) 0).bind fun y12 => Sum.elim (fun _ => some (.inl (wr .i64 (p1 + 1)))) (fun y14 => some (.inr (.inr y14))) y12))))) (fun y8 => some (.inr (.inr y8))) y6))) else (some (.inr (.inl ())))
noncomputable def M.Q1 (a0 : List Z3) : Option Int :=
  bif decide ((a0.length : Int) > 8) then (some 7) else ((ZZ (M.Qs a0) 0).bind fun y15 => Sum.elim (fun _ => some 0) (fun y17 => some y17) y15)
noncomputable def M.JQ (a0 : Zf) (a1 : ByteArray) (p1 : Int) : Option (Int ⊕ (Unit ⊕ Int)) :=
  bif decide (p1 < (a0.Xm.length : Int)) then (gd [decide (0 ≤ p1), decide (p1 < (a0.Xm.length : Int))] (bif YJ ((a0.Xm.getD p1.toNat default).ZX) a1 then (some (.inr (.inr p1))) else (some (.inl (wr .i64 (p1 + 1)))))) else (some (.inr (.inl ())))
noncomputable def M.QF (a0 : Zf) (a1 : ByteArray) : Option Int :=
  (ZZ (M.JQ a0 a1) 0).bind fun y3 => Sum.elim (fun _ => some (-1)) (fun y5 => some y5) y3
noncomputable def M.JH (a0 : Zf) (p1 : Int) (p4 : Int) : Option (Int ⊕ (Unit ⊕ Int)) :=
  bif decide (p4 < p1) then (gd [decide (0 ≤ p4), decide (p4 < (a0.Xa.length : Int)), decide (0 ≤ p1), decide (p1 < (a0.Xa.length : Int))] (bif YJ ((a0.Xa.getD p4.toNat default).ZX) ((a0.Xa.getD p1.toNat default).ZX) then (some (.inr (.inr 4))) else (some (.inl (wr .i64 (p4 + 1)))))) else (some (.inr (.inl ())))
noncomputable def M.Q8 (a0 : Zf) (p1 : Int) (p9 : Int) : Option (Int ⊕ (Unit ⊕ Int)) :=
  gd [decide (0 ≤ p1), decide (p1 < (a0.Xa.length : Int))] (bif decide (p9 < (((a0.Xa.getD p1.toNat default).Xn).length : Int)) then (gd [decide (0 ≤ p1), decide (p1 < (a0.Xa.length : Int)), decide (0 ≤ p9), decide (p9 < (((a0.Xa.getD p1.toNat default).Xn).length : Int))] ((gc (!strEq ((((a0.Xa.getD p1.toNat default).Xn).getD p9.toNat default).QX) (⟨#[]⟩ : ByteArray)) (M.QF a0 ((((a0.Xa.getD p1.toNat default).Xn).getD p9.toNat default).QX))).bind fun r11 => bif (!strEq ((((a0.Xa.getD p1.toNat default).Xn).getD p9.toNat default).QX) (⟨#[]⟩ : ByteArray)) && (decide (r11 < 0)) then (some (.inr (.inr 5))) else ((M.Zz ((((a0.Xa.getD p1.toNat default).Xn).getD p9.toNat default).Gk) (-1) 65535).bind fun r12 => (gc (!(!r12)) (M.Zz ((((a0.Xa.getD p1.toNat default).Xn).getD p9.toNat default).Kr) (-1) 65535)).bind fun r13 => (gc (!((!r12) || (!r13))) (M.Zz ((((a0.Xa.getD p1.toNat default).Xn).getD p9.toNat default).W3) (-1) 16777215)).bind fun r14 => (gc (!(((!r12) || (!r13)) || (!r14))) (M.Zz ((((a0.Xa.getD p1.toNat default).Xn).getD p9.toNat default).Gu) (-1) 1000000)).bind fun r15 => (gc (!((((!r12) || (!r13)) || (!r14)) || (!r15))) (M.Zz ((((a0.Xa.getD p1.toNat default).Xn).getD p9.toNat default).Gv) 0 8)).bind fun r16 => bif ((((!r12) || (!r13)) || (!r14)) || (!r15)) || (!r16) then (some (.inr (.inr 1))) else (some (.inl (wr .i64 (p9 + 1))))))) else (some (.inr (.inl ()))))
noncomputable def M.Q9 (a0 : Zf) (p1 : Int) : Option (Int ⊕ (Unit ⊕ Int)) :=
  bif decide (p1 < (a0.Xa.length : Int)) then ((M.Jn ((a0.Xa.getD p1.toNat default).ZX)).bind fun r3 => gd [decide (0 ≤ p1), decide (p1 < (a0.Xa.length : Int))] (bif !r3 then (some (.inr (.inr 3))) else ((ZZ (M.JH a0 p1) 0).bind fun y6 => Sum.elim (fun _ => gd [decide (0 ≤ p1), decide (p1 < (a0.Xa.length : Int))] (bif (((a0.Xa.getD p1.toNat default).Xn).length : Int) == 0 then (some (.inr (.inr 1))) else (gd [decide (0 ≤ p1), decide (p1 < (a0.Xa.length : Int))] (bif decide ((((a0.Xa.getD p1.toNat default).Xn).length : Int) > 8) then (some (.inr (.inr 7))) else ((ZZ (M.Q8 a0 p1) 0).bind fun y17 => Sum.elim (fun _ => some (.inl (wr .i64 (p1 + 1)))) (fun y19 => some (.inr (.inr y19))) y17))))) (fun y8 => some (.inr (.inr y8))) y6))) else (some (.inr (.inl ())))
noncomputable def M.JU (a0 : Zf) : Option Int :=
  bif decide ((a0.Xa.length : Int) > 8) then (some 7) else ((ZZ (M.Q9 a0) 0).bind fun y20 => Sum.elim (fun _ => some 0) (fun y22 => some y22) y20)
noncomputable def M.Wn (a0 : J8) : Option Bool :=
  some (((decide (0 ≤ a0.GK)) && (decide (a0.GK ≤ a0.Ks))) && (decide (a0.Ks ≤ 65535)))
noncomputable def M.U8 (a0 : J8) : Option Bool :=
  some ((a0.GK == 0) && ((a0.Ks == 65535) && true))
noncomputable def M.Vb (a0 : Zbt) : Option Bool :=
  (M.Zz a0.Ye (-1) 255).bind fun r1 => (gc (!(((!r1) || ((Uc .and .u32 a0.Zab.Zu a0.Zab.GJ) != 0)) || ((Uc .and .u32 a0.Zac.Zu a0.Zac.GJ) != 0))) (M.Wn a0.VB)).bind fun r2 => (gc (!((((!r1) || ((Uc .and .u32 a0.Zab.Zu a0.Zab.GJ) != 0)) || ((Uc .and .u32 a0.Zac.Zu a0.Zac.GJ) != 0)) || (!r2))) (M.Wn a0.VC)).bind fun r3 => bif ((((!r1) || ((Uc .and .u32 a0.Zab.Zu a0.Zab.GJ) != 0)) || ((Uc .and .u32 a0.Zac.Zu a0.Zac.GJ) != 0)) || (!r2)) || (!r3) then (some false) else ((gc (!((a0.Ye == 6) || (a0.Ye == 17))) (M.U8 a0.VB)).bind fun r4 => (gc ((!((a0.Ye == 6) || (a0.Ye == 17))) && r4) (M.U8 a0.VC)).bind fun r5 => some (((a0.Ye == 6) || (a0.Ye == 17)) || (r4 && r5)))
noncomputable def M.QV (a0 : List WU) (p1 : Int) (p4 : Int) : Option (Int ⊕ (Unit ⊕ Int)) :=
  bif decide (p4 < p1) then (gd [decide (0 ≤ p4), decide (p4 < (a0.length : Int)), decide (0 ≤ p1), decide (p1 < (a0.length : Int))] (bif YJ ((a0.getD p4.toNat default).ZX) ((a0.getD p1.toNat default).ZX) then (some (.inr (.inr 4))) else (some (.inl (wr .i64 (p4 + 1)))))) else (some (.inr (.inl ())))
noncomputable def M.Qt (a0 : List WU) (p1 : Int) (p9 : Int) : Option (Int ⊕ (Unit ⊕ Int)) :=
  gd [decide (0 ≤ p1), decide (p1 < (a0.length : Int))] (bif decide (p9 < (((a0.getD p1.toNat default).XC).length : Int)) then ((M.Vb (((a0.getD p1.toNat default).XC).getD p9.toNat default)).bind fun r11 => gd [decide (0 ≤ p1), decide (p1 < (a0.length : Int)), decide (0 ≤ p9), decide (p9 < (((a0.getD p1.toNat default).XC).length : Int))] (bif !r11 then (some (.inr (.inr 1))) else (some (.inl (wr .i64 (p9 + 1)))))) else (some (.inr (.inl ()))))
noncomputable def M.Qu (a0 : List WU) (p1 : Int) : Option (Int ⊕ (Unit ⊕ Int)) :=
  bif decide (p1 < (a0.length : Int)) then ((M.Jn ((a0.getD p1.toNat default).ZX)).bind fun r3 => gd [decide (0 ≤ p1), decide (p1 < (a0.length : Int))] (bif !r3 then (some (.inr (.inr 3))) else ((ZZ (M.QV a0 p1) 0).bind fun y6 => Sum.elim (fun _ => gd [decide (0 ≤ p1), decide (p1 < (a0.length : Int))] (bif (((a0.getD p1.toNat default).XC).length : Int) == 0 then (some (.inr (.inr 1))) else (gd [decide (0 ≤ p1), decide (p1 < (a0.length : Int))] (bif decide ((((a0.getD p1.toNat default).XC).length : Int) > 16) then (some (.inr (.inr 7))) else ((ZZ (M.Qt a0 p1) 0).bind fun y12 => Sum.elim (fun _ => some (.inl (wr .i64 (p1 + 1)))) (fun y14 => some (.inr (.inr y14))) y12))))) (fun y8 => some (.inr (.inr y8))) y6))) else (some (.inr (.inl ())))
noncomputable def M.Q2 (a0 : List WU) : Option Int :=
  bif decide ((a0.length : Int) > 8) then (some 7) else ((ZZ (M.Qu a0) 0).bind fun y15 => Sum.elim (fun _ => some 0) (fun y17 => some y17) y15)
noncomputable def M.Um (a0 : Zf) (a1 : ByteArray) (p1 : Int) : Option (Int ⊕ (Unit ⊕ Int)) :=
  bif decide (p1 < (a0.XR.length : Int)) then (gd [decide (0 ≤ p1), decide (p1 < (a0.XR.length : Int))] (bif YJ ((a0.XR.getD p1.toNat default).ZX) a1 then (some (.inr (.inr p1))) else (some (.inl (wr .i64 (p1 + 1)))))) else (some (.inr (.inl ())))
noncomputable def M.Un (a0 : Zf) (a1 : ByteArray) : Option Int :=
  (ZZ (M.Um a0 a1) 0).bind fun y3 => Sum.elim (fun _ => some (-1)) (fun y5 => some y5) y3
noncomputable def M.X6 (a0 : Zf) (p1 : Int) (p3 : Bool) : Option (Int ⊕ (Unit ⊕ Int)) :=
  bif !p3 then (some (.inr (.inr 1))) else ((gc (((a0.Xf.getD p1.toNat default).J5) == 2) (M.Un a0 ((a0.Xf.getD p1.toNat default).QX))).bind fun r4 => bif (((a0.Xf.getD p1.toNat default).J5) == 2) && (decide (r4 < 0)) then (some (.inr (.inr 5))) else (some (.inl (wr .i64 (p1 + 1)))))
noncomputable def M.Qb (a0 : Zf) (p1 : Int) : Option (Int ⊕ (Unit ⊕ Int)) :=
  bif decide (p1 < (a0.Xf.length : Int)) then (gd [decide (0 ≤ p1), decide (p1 < (a0.Xf.length : Int))] (bif ((a0.Xf.getD p1.toNat default).J5) == 1 then (M.X6 a0 p1 (((((a0.Xf.getD p1.toNat default).Qq) != 0) && (((a0.Xf.getD p1.toNat default).YA) != 0)) && ((((a0.Xf.getD p1.toNat default).J5) == ((a0.Xf.getD p1.toNat default).J5)) && ((((a0.Xf.getD p1.toNat default).Qq) == ((a0.Xf.getD p1.toNat default).Qq)) && ((((a0.Xf.getD p1.toNat default).YA) == ((a0.Xf.getD p1.toNat default).YA)) && ((((a0.Xf.getD p1.toNat default).Ye) == 0) && ((((a0.Xf.getD p1.toNat default).QR) == 0) && ((((a0.Xf.getD p1.toNat default).Ql) == 0) && (YJ ((a0.Xf.getD p1.toNat default).QX) (⟨#[]⟩ : ByteArray) && ((((a0.Xf.getD p1.toNat default).GK) == 0) && ((((a0.Xf.getD p1.toNat default).Ks) == 0) && true))))))))))) else (bif ((a0.Xf.getD p1.toNat default).J5) == 2 then (M.X6 a0 p1 ((((((a0.Xf.getD p1.toNat default).GK) != 0) && (decide (((a0.Xf.getD p1.toNat default).GK) ≤ ((a0.Xf.getD p1.toNat default).Ks)))) && (decide ((wr .u32 (((a0.Xf.getD p1.toNat default).Ks) - ((a0.Xf.getD p1.toNat default).GK))) < 8))) && ((((a0.Xf.getD p1.toNat default).J5) == ((a0.Xf.getD p1.toNat default).J5)) && ((((a0.Xf.getD p1.toNat default).Qq) == 0) && ((((a0.Xf.getD p1.toNat default).YA) == 0) && ((((a0.Xf.getD p1.toNat default).Ye) == 0) && ((((a0.Xf.getD p1.toNat default).QR) == 0) && ((((a0.Xf.getD p1.toNat default).Ql) == 0) && (YJ ((a0.Xf.getD p1.toNat default).QX) ((a0.Xf.getD p1.toNat default).QX) && ((((a0.Xf.getD p1.toNat default).GK) == ((a0.Xf.getD p1.toNat default).GK)) && ((((a0.Xf.getD p1.toNat default).Ks) == ((a0.Xf.getD p1.toNat default).Ks)) && true))))))))))) else (bif ((a0.Xf.getD p1.toNat default).J5) == 3 then ((gc (((((a0.Xf.getD p1.toNat default).Qq) != 0) && (((a0.Xf.getD p1.toNat default).YA) != 0)) && ((((a0.Xf.getD p1.toNat default).Ye) == 6) || (((a0.Xf.getD p1.toNat default).Ye) == 17))) (M.Zz ((a0.Xf.getD p1.toNat default).QR) 0 65535)).bind fun r5 => (gc ((((((a0.Xf.getD p1.toNat default).Qq) != 0) && (((a0.Xf.getD p1.toNat default).YA) != 0)) && ((((a0.Xf.getD p1.toNat default).Ye) == 6) || (((a0.Xf.getD p1.toNat default).Ye) == 17))) && r5) (M.Zz ((a0.Xf.getD p1.toNat default).Ql) 0 65535)).bind fun r6 => M.X6 a0 p1 ((((((((((a0.Xf.getD p1.toNat default).Qq) != 0) && (((a0.Xf.getD p1.toNat default).YA) != 0)) && ((((a0.Xf.getD p1.toNat default).Ye) == 6) || (((a0.Xf.getD p1.toNat default).Ye) == 17))) && r5) && r6) && (YJ ((a0.Xf.getD p1.toNat default).QX) (⟨#[]⟩ : ByteArray))) && (((a0.Xf.getD p1.toNat default).GK) == 0)) && (((a0.Xf.getD p1.toNat default).Ks) == 0))) else (M.X6 a0 p1 false))))) else (some (.inr (.inl ())))
noncomputable def M.QG (a0 : Zf) : Option Int :=
  bif decide ((a0.Xf.length : Int) > 8) then (some 7) else ((ZZ (M.Qb a0) 0).bind fun y7 => Sum.elim (fun _ => some 0) (fun y9 => some y9) y7)
noncomputable def M.VS (a0 : Zf) (p1 : Int) : Option (Int ⊕ (Unit ⊕ Int)) :=
  bif decide (p1 < (a0.Zc.length : Int)) then (gd [decide (0 ≤ p1), decide (p1 < (a0.Zc.length : Int))] ((gc (!strEq ((a0.Zc.getD p1.toNat default).V7) (⟨#[]⟩ : ByteArray)) (M.Un a0 ((a0.Zc.getD p1.toNat default).V7))).bind fun r3 => (gc ((!((!strEq ((a0.Zc.getD p1.toNat default).V7) (⟨#[]⟩ : ByteArray)) && (decide (r3 < 0)))) && (!strEq ((a0.Zc.getD p1.toNat default).Y2) (⟨#[]⟩ : ByteArray))) (M.Un a0 ((a0.Zc.getD p1.toNat default).Y2))).bind fun r4 => bif ((!strEq ((a0.Zc.getD p1.toNat default).V7) (⟨#[]⟩ : ByteArray)) && (decide (r3 < 0))) || ((!strEq ((a0.Zc.getD p1.toNat default).Y2) (⟨#[]⟩ : ByteArray)) && (decide (r4 < 0))) then (some (.inr (.inr 5))) else (some (.inl (wr .i64 (p1 + 1)))))) else (some (.inr (.inl ())))
noncomputable def M.Wo (a0 : Zf) : Option Int :=
  (ZZ (M.VS a0) 0).bind fun y5 => Sum.elim (fun _ => some 0) (fun y7 => some y7) y5
noncomputable def M.VT (a0 : Zf) (a1 : Int) (p1 : Int) : Option (Int ⊕ (Unit ⊕ Int)) :=
  bif decide (p1 < (a0.Zc.length : Int)) then (gd [decide (0 ≤ p1), decide (p1 < (a0.Zc.length : Int)), Ys (((a0.Zc.getD p1.toNat default).ZJ) != 0) (decide (0 ≤ p1)), Ys (((a0.Zc.getD p1.toNat default).ZJ) != 0) (decide (p1 < (a0.Zc.length : Int)))] (bif (((a0.Zc.getD p1.toNat default).ZJ) != 0) && (((a0.Zc.getD p1.toNat default).Zu) == a1) then (some (.inr (.inr p1))) else (some (.inl (wr .i64 (p1 + 1)))))) else (some (.inr (.inl ())))
noncomputable def M.Ja (a0 : Zf) (a1 : Int) : Option Int :=
  (ZZ (M.VT a0 a1) 0).bind fun y3 => Sum.elim (fun _ => some (-1)) (fun y5 => some y5) y3
noncomputable def M.JI (a0 : Zf) (a1 : ByteArray) (p1 : Int) : Option (Int ⊕ (Unit ⊕ Int)) :=
  bif decide (p1 < (a0.Zc.length : Int)) then (gd [decide (0 ≤ p1), decide (p1 < (a0.Zc.length : Int))] (bif YJ ((a0.Zc.getD p1.toNat default).ZX) a1 then (some (.inr (.inr p1))) else (some (.inl (wr .i64 (p1 + 1)))))) else (some (.inr (.inl ())))
noncomputable def M.JV (a0 : Zf) (a1 : ByteArray) : Option Int :=
  (ZZ (M.JI a0 a1) 0).bind fun y3 => Sum.elim (fun _ => some (-1)) (fun y5 => some y5) y3
noncomputable def M.Jv (a0 : Zf) (p1 : Int) (p11 : Int) : Option (Int ⊕ (Unit ⊕ Int)) :=
  bif decide (p11 < p1) then (gd [decide (0 ≤ p11), decide (p11 < (a0.Zq.length : Int)), Ys (((((a0.Zq.getD p11.toNat default).Zp).Zu) == (((a0.Zq.getD p1.toNat default).Zp).Zu)) && (((((a0.Zq.getD p11.toNat default).Zp).ZJ) == (((a0.Zq.getD p1.toNat default).Zp).ZJ)) && true)) (decide (0 ≤ p11)), Ys (((((a0.Zq.getD p11.toNat default).Zp).Zu) == (((a0.Zq.getD p1.toNat default).Zp).Zu)) && (((((a0.Zq.getD p11.toNat default).Zp).ZJ) == (((a0.Zq.getD p1.toNat default).Zp).ZJ)) && true)) (decide (p11 < (a0.Zq.length : Int)))] (bif (((((a0.Zq.getD p11.toNat default).Zp).Zu) == (((a0.Zq.getD p1.toNat default).Zp).Zu)) && (((((a0.Zq.getD p11.toNat default).Zp).ZJ) == (((a0.Zq.getD p1.toNat default).Zp).ZJ)) && true)) && (((a0.Zq.getD p11.toNat default).Xl) == ((a0.Zq.getD p1.toNat default).Xl)) then (some (.inr (.inr 6))) else (some (.inl (wr .i64 (p11 + 1)))))) else (some (.inr (.inl ())))
noncomputable def M.Jw (a0 : Zf) (p1 : Int) (_p10 : Unit) : Option (Int ⊕ (Unit ⊕ Int)) :=
  (ZZ (M.Jv a0 p1) 0).bind fun y13 => Sum.elim (fun _ => some (.inl (wr .i64 (p1 + 1)))) (fun y15 => some (.inr (.inr y15))) y13
noncomputable def M.Jx (a0 : Zf) (p1 : Int) (p5 : Int) : Option (Int ⊕ (Unit ⊕ Int)) :=
  (M.YW ((a0.Zq.getD p1.toNat default).Zp)).bind fun r6 => (gc ((!((!r6) || (p5 != 1))) && (((a0.Zq.getD p1.toNat default).Vu) != 0)) (M.Ja a0 ((a0.Zq.getD p1.toNat default).Vu))).bind fun r7 => (gc (!(((!r6) || (p5 != 1)) || ((((a0.Zq.getD p1.toNat default).Vu) != 0) && (decide (r7 ≥ 0))))) (M.Zz ((a0.Zq.getD p1.toNat default).Xl) 1 255)).bind fun r8 => (gc (!((((!r6) || (p5 != 1)) || ((((a0.Zq.getD p1.toNat default).Vu) != 0) && (decide (r7 ≥ 0)))) || (!r8))) (M.Zz ((a0.Zq.getD p1.toNat default).Gk) 0 65535)).bind fun r9 => bif ((((!r6) || (p5 != 1)) || ((((a0.Zq.getD p1.toNat default).Vu) != 0) && (decide (r7 ≥ 0)))) || (!r8)) || (!r9) then (some (.inr (.inr 1))) else (bif !strEq ((a0.Zq.getD p1.toNat default).QI) (⟨#[]⟩ : ByteArray) then ((M.JV a0 ((a0.Zq.getD p1.toNat default).QI)).bind fun r16 => bif decide (r16 < 0) then (some (.inr (.inr 5))) else (gd [decide (0 ≤ r16), decide (r16 < (a0.Zc.length : Int))] (bif ((a0.Zc.getD r16.toNat default).ZJ) == 0 then (some (.inr (.inr 1))) else (M.Jw a0 p1 ())))) else (M.Jw a0 p1 ()))
noncomputable def M.Jy (a0 : Zf) (p1 : Int) (p4 : Int) : Option (Int ⊕ (Unit ⊕ Int)) :=
  bif (a0.Zq.getD p1.toNat default).VH then (M.Jx a0 p1 (wr .i64 (p4 + 1))) else (M.Jx a0 p1 p4)
noncomputable def M.Jz (a0 : Zf) (p1 : Int) (p3 : Int) : Option (Int ⊕ (Unit ⊕ Int)) :=
  bif !strEq ((a0.Zq.getD p1.toNat default).QI) (⟨#[]⟩ : ByteArray) then (M.Jy a0 p1 (wr .i64 (p3 + 1))) else (M.Jy a0 p1 p3)
noncomputable def M.JW (a0 : Zf) (p1 : Int) : Option (Int ⊕ (Unit ⊕ Int)) :=
  bif decide (p1 < (a0.Zq.length : Int)) then (gd [decide (0 ≤ p1), decide (p1 < (a0.Zq.length : Int))] (bif ((a0.Zq.getD p1.toNat default).Vu) != 0 then (M.Jz a0 p1 1) else (M.Jz a0 p1 0))) else (some (.inr (.inl ())))
noncomputable def M.VU (a0 : Zf) : Option Int :=
  bif decide ((a0.Zq.length : Int) > 16) then (some 7) else ((ZZ (M.JW a0) 0).bind fun y17 => Sum.elim (fun _ => some 0) (fun y19 => some y19) y17)
noncomputable def M.Vp (a0 : Zf) (a1 : ByteArray) (p1 : Int) : Option (Int ⊕ (Unit ⊕ Int)) :=
  bif decide (p1 < (a0.Xa.length : Int)) then (gd [decide (0 ≤ p1), decide (p1 < (a0.Xa.length : Int))] (bif YJ ((a0.Xa.getD p1.toNat default).ZX) a1 then (some (.inr (.inr p1))) else (some (.inl (wr .i64 (p1 + 1)))))) else (some (.inr (.inl ())))
noncomputable def M.JJ (a0 : Zf) (a1 : ByteArray) : Option Int :=
  (ZZ (M.Vp a0 a1) 0).bind fun y3 => Sum.elim (fun _ => some (-1)) (fun y5 => some y5) y3
noncomputable def M.Yi (a1 : List YB) (p1 : Int) (p7 : Int) : Option (Int ⊕ (Unit ⊕ Int)) :=
  bif decide (p7 < p1) then (gd [decide (0 ≤ p7), decide (p7 < (a1.length : Int))] (bif ((a1.getD p7.toNat default).WX) == ((a1.getD p1.toNat default).WX) then (some (.inr (.inr 4))) else (some (.inl (wr .i64 (p7 + 1)))))) else (some (.inr (.inl ())))
noncomputable def M.Yx (a0 : Zf) (a1 : List YB) (a2 : Int) (a3 : Int) (a4 : Int) (p1 : Int) : Option (Int ⊕ (Unit ⊕ Int)) :=
  bif decide (p1 < (a1.length : Int)) then (gd [decide (0 ≤ p1), decide (p1 < (a1.length : Int))] ((M.Zz ((a1.getD p1.toNat default).WX) 1 5).bind fun r3 => (gc (!((!r3) || (((a1.getD p1.toNat default).WX) == a2))) (M.Zz ((a1.getD p1.toNat default).Rj) a3 a4)).bind fun r4 => (gc (!(((!r3) || (((a1.getD p1.toNat default).WX) == a2)) || (!r4))) (M.Zz ((a1.getD p1.toNat default).Gk) 0 65535)).bind fun r5 => bif (((!r3) || (((a1.getD p1.toNat default).WX) == a2)) || (!r4)) || (!r5) then (some (.inr (.inr 1))) else (bif (((a2 == 3) && (((a1.getD p1.toNat default).KG) != 1)) && (((a1.getD p1.toNat default).KG) != 2)) || ((a2 != 3) && (((a1.getD p1.toNat default).KG) != 0)) then (some (.inr (.inr 1))) else ((gc (!strEq ((a1.getD p1.toNat default).Zad) (⟨#[]⟩ : ByteArray)) (M.JJ a0 ((a1.getD p1.toNat default).Zad))).bind fun r6 => bif (!strEq ((a1.getD p1.toNat default).Zad) (⟨#[]⟩ : ByteArray)) && (decide (r6 < 0)) then (some (.inr (.inr 5))) else ((ZZ (M.Yi a1 p1) 0).bind fun y9 => Sum.elim (fun _ => some (.inl (wr .i64 (p1 + 1)))) (fun y11 => some (.inr (.inr y11))) y9))))) else (some (.inr (.inl ())))
noncomputable def M.Yb (a0 : Zf) (a1 : List YB) (a2 : Int) (a3 : Int) (a4 : Int) : Option Int :=
  bif decide ((a1.length : Int) > 4) then (some 7) else ((ZZ (M.Yx a0 a1 a2 a3 a4) 0).bind fun y12 => Sum.elim (fun _ => some 0) (fun y14 => some y14) y12)
noncomputable def M.Jb (a0 : Zf) (p2 : Int) (p6 : Int) : Option (Int ⊕ (Unit ⊕ Int)) :=
  bif decide (p6 < p2) then ((gc (((a0.Yl.ZK.getD p6.toNat default).J7) == ((a0.Yl.ZK.getD p2.toNat default).J7)) (M.Vk ((a0.Yl.ZK.getD p6.toNat default).Zp) ((a0.Yl.ZK.getD p2.toNat default).Zp))).bind fun r8 => gd [decide (0 ≤ p6), decide (p6 < (a0.Yl.ZK.length : Int)), decide (0 ≤ p2), decide (p2 < (a0.Yl.ZK.length : Int)), Ys (((a0.Yl.ZK.getD p6.toNat default).J7) == ((a0.Yl.ZK.getD p2.toNat default).J7)) (decide (0 ≤ p6)), Ys (((a0.Yl.ZK.getD p6.toNat default).J7) == ((a0.Yl.ZK.getD p2.toNat default).J7)) (decide (p6 < (a0.Yl.ZK.length : Int))), Ys (((a0.Yl.ZK.getD p6.toNat default).J7) == ((a0.Yl.ZK.getD p2.toNat default).J7)) (decide (0 ≤ p2)), Ys (((a0.Yl.ZK.getD p6.toNat default).J7) == ((a0.Yl.ZK.getD p2.toNat default).J7)) (decide (p2 < (a0.Yl.ZK.length : Int)))] (bif (((a0.Yl.ZK.getD p6.toNat default).J7) == ((a0.Yl.ZK.getD p2.toNat default).J7)) && r8 then (some (.inr (.inr 6))) else (some (.inl (wr .i64 (p6 + 1)))))) else (some (.inr (.inl ())))
noncomputable def M.Jc (a0 : Zf) (p2 : Int) : Option (Int ⊕ (Unit ⊕ Int)) :=
  bif decide (p2 < (a0.Yl.ZK.length : Int)) then ((M.Zz ((a0.Yl.ZK.getD p2.toNat default).J7) 0 255).bind fun r4 => (gc (!(!r4)) (M.YW ((a0.Yl.ZK.getD p2.toNat default).Zp))).bind fun r5 => gd [decide (0 ≤ p2), decide (p2 < (a0.Yl.ZK.length : Int)), Ys (!(!r4)) (decide (0 ≤ p2)), Ys (!(!r4)) (decide (p2 < (a0.Yl.ZK.length : Int)))] (bif (!r4) || (!r5) then (some (.inr (.inr 1))) else ((ZZ (M.Jb a0 p2) 0).bind fun y9 => Sum.elim (fun _ => some (.inl (wr .i64 (p2 + 1)))) (fun y11 => some (.inr (.inr y11))) y9))) else (some (.inr (.inl ())))
noncomputable def M.JX (a0 : Zf) : Option Int :=
  bif !a0.Yl.WI then (bif ((a0.Yl.Xl != 0) || (decide ((a0.Yl.ZK.length : Int) > 0))) || (decide ((a0.Yl.Zv.length : Int) > 0)) then (some 1) else (some 0)) else ((M.Zz a0.Yl.Xl 1 255).bind fun r1 => bif !r1 then (some 1) else (bif decide ((a0.Yl.ZK.length : Int) > 4) then (some 7) else ((ZZ (M.Jc a0) 0).bind fun y12 => Sum.elim (fun _ => (M.Yb a0 a0.Yl.Zv 3 0 16777215).bind fun r15 => some r15) (fun y14 => some y14) y12)))
noncomputable def M.Vl (a0 : Zf) : Option Int :=
  bif !a0.YH.WI then (bif (((a0.YH.Xl != 0) || (!strEq a0.YH.V7 (⟨#[]⟩ : ByteArray))) || (!strEq a0.YH.Y2 (⟨#[]⟩ : ByteArray))) || (decide ((a0.YH.Zv.length : Int) > 0)) then (some 1) else (some 0)) else ((M.Zz a0.YH.Xl 1 255).bind fun r1 => bif !r1 then (some 1) else ((gc (!strEq a0.YH.V7 (⟨#[]⟩ : ByteArray)) (M.QF a0 a0.YH.V7)).bind fun r2 => (gc ((!((!strEq a0.YH.V7 (⟨#[]⟩ : ByteArray)) && (decide (r2 < 0)))) && (!strEq a0.YH.Y2 (⟨#[]⟩ : ByteArray))) (M.QF a0 a0.YH.Y2)).bind fun r3 => bif ((!strEq a0.YH.V7 (⟨#[]⟩ : ByteArray)) && (decide (r2 < 0))) || ((!strEq a0.YH.Y2 (⟨#[]⟩ : ByteArray)) && (decide (r3 < 0))) then (some 5) else ((M.Yb a0 a0.YH.Zv 4 1 15).bind fun r4 => some r4)))
noncomputable def M.Jd (a0 : Zf) (p1 : Int) (p6 : Int) : Option (Int ⊕ (Unit ⊕ Int)) :=
  bif decide (p6 < p1) then (gd [decide (0 ≤ p6), decide (p6 < (a0.Xd.Zl.length : Int)), decide (0 ≤ p1), decide (p1 < (a0.Xd.Zl.length : Int))] (bif ((a0.Xd.Zl.getD p6.toNat default).Zu) == ((a0.Xd.Zl.getD p1.toNat default).Zu) then (some (.inr (.inr 4))) else (some (.inl (wr .i64 (p6 + 1)))))) else (some (.inr (.inl ())))
noncomputable def M.Je (a0 : Zf) (p1 : Int) : Option (Int ⊕ (Unit ⊕ Int)) :=
  bif decide (p1 < (a0.Xd.Zl.length : Int)) then ((gc (!(((a0.Xd.Zl.getD p1.toNat default).Zu) == 0)) (M.Zz ((a0.Xd.Zl.getD p1.toNat default).Kt) 1 65535)).bind fun r3 => gd [decide (0 ≤ p1), decide (p1 < (a0.Xd.Zl.length : Int)), Ys (!(((a0.Xd.Zl.getD p1.toNat default).Zu) == 0)) (decide (0 ≤ p1)), Ys (!(((a0.Xd.Zl.getD p1.toNat default).Zu) == 0)) (decide (p1 < (a0.Xd.Zl.length : Int)))] (bif (((a0.Xd.Zl.getD p1.toNat default).Zu) == 0) || (!r3) then (some (.inr (.inr 1))) else ((gc (!strEq ((a0.Xd.Zl.getD p1.toNat default).V7) (⟨#[]⟩ : ByteArray)) (M.JJ a0 ((a0.Xd.Zl.getD p1.toNat default).V7))).bind fun r4 => (gc ((!((!strEq ((a0.Xd.Zl.getD p1.toNat default).V7) (⟨#[]⟩ : ByteArray)) && (decide (r4 < 0)))) && (!strEq ((a0.Xd.Zl.getD p1.toNat default).Y2) (⟨#[]⟩ : ByteArray))) (M.JJ a0 ((a0.Xd.Zl.getD p1.toNat default).Y2))).bind fun r5 => gd [decide (0 ≤ p1), decide (p1 < (a0.Xd.Zl.length : Int)), Ys (!strEq ((a0.Xd.Zl.getD p1.toNat default).V7) (⟨#[]⟩ : ByteArray)) (decide (0 ≤ p1)), Ys (!strEq ((a0.Xd.Zl.getD p1.toNat default).V7) (⟨#[]⟩ : ByteArray)) (decide (p1 < (a0.Xd.Zl.length : Int))), Ys (!((!strEq ((a0.Xd.Zl.getD p1.toNat default).V7) (⟨#[]⟩ : ByteArray)) && (decide (r4 < 0)))) (decide (0 ≤ p1)), Ys (!((!strEq ((a0.Xd.Zl.getD p1.toNat default).V7) (⟨#[]⟩ : ByteArray)) && (decide (r4 < 0)))) (decide (p1 < (a0.Xd.Zl.length : Int))), Ys ((!((!strEq ((a0.Xd.Zl.getD p1.toNat default).V7) (⟨#[]⟩ : ByteArray)) && (decide (r4 < 0)))) && (!strEq ((a0.Xd.Zl.getD p1.toNat default).Y2) (⟨#[]⟩ : ByteArray))) (decide (0 ≤ p1)), Ys ((!((!strEq ((a0.Xd.Zl.getD p1.toNat default).V7) (⟨#[]⟩ : ByteArray)) && (decide (r4 < 0)))) && (!strEq ((a0.Xd.Zl.getD p1.toNat default).Y2) (⟨#[]⟩ : ByteArray))) (decide (p1 < (a0.Xd.Zl.length : Int)))] (bif ((!strEq ((a0.Xd.Zl.getD p1.toNat default).V7) (⟨#[]⟩ : ByteArray)) && (decide (r4 < 0))) || ((!strEq ((a0.Xd.Zl.getD p1.toNat default).Y2) (⟨#[]⟩ : ByteArray)) && (decide (r5 < 0))) then (some (.inr (.inr 5))) else ((ZZ (M.Jd a0 p1) 0).bind fun y8 => Sum.elim (fun _ => some (.inl (wr .i64 (p1 + 1)))) (fun y10 => some (.inr (.inr y10))) y8))))) else (some (.inr (.inl ())))
noncomputable def M.Vc (a0 : Zf) : Option Int :=
  bif decide ((a0.Xd.Zl.length : Int) > 8) then (some 7) else ((ZZ (M.Je a0) 0).bind fun y11 => Sum.elim (fun _ => some 0) (fun y13 => some y13) y11)
noncomputable def M.QA (a0 : Z6) (p1 : Int) (p4 : Int) : Option (Int ⊕ (Unit ⊕ Int)) :=
  bif decide (p4 < p1) then (gd [decide (0 ≤ p4), decide (p4 < (a0.Zt.length : Int)), decide (0 ≤ p1), decide (p1 < (a0.Zt.length : Int))] (bif ((((a0.Zt.getD p4.toNat default).Zu) == ((a0.Zt.getD p1.toNat default).Zu)) && ((((a0.Zt.getD p4.toNat default).ZJ) == ((a0.Zt.getD p1.toNat default).ZJ)) && true)) then (some (.inr (.inr 4))) else (some (.inl (wr .i64 (p4 + 1)))))) else (some (.inr (.inl ())))
noncomputable def M.Qc (a0 : Z6) (p1 : Int) : Option (Int ⊕ (Unit ⊕ Int)) :=
  bif decide (p1 < (a0.Zt.length : Int)) then ((M.YW (a0.Zt.getD p1.toNat default)).bind fun r3 => gd [decide (0 ≤ p1), decide (p1 < (a0.Zt.length : Int))] (bif !r3 then (some (.inr (.inr 1))) else ((ZZ (M.QA a0 p1) 0).bind fun y6 => Sum.elim (fun _ => some (.inl (wr .i64 (p1 + 1)))) (fun y8 => some (.inr (.inr y8))) y6))) else (some (.inr (.inl ())))
noncomputable def M.Qd (a0 : Z6) (p12 : Int) (p15 : Int) : Option (Int ⊕ (Unit ⊕ Int)) :=
  bif decide (p15 < p12) then (gd [decide (0 ≤ p15), decide (p15 < (a0.Zr.length : Int)), decide (0 ≤ p12), decide (p12 < (a0.Zr.length : Int))] (bif (((((a0.Zr.getD p15.toNat default).Zp).Zu) == (((a0.Zr.getD p12.toNat default).Zp).Zu)) && (((((a0.Zr.getD p15.toNat default).Zp).ZJ) == (((a0.Zr.getD p12.toNat default).Zp).ZJ)) && true)) then (some (.inr (.inr 4))) else (some (.inl (wr .i64 (p15 + 1)))))) else (some (.inr (.inl ())))
noncomputable def M.Qe (a0 : Z6) (p12 : Int) : Option (Int ⊕ (Unit ⊕ Int)) :=
  bif decide (p12 < (a0.Zr.length : Int)) then ((M.YW ((a0.Zr.getD p12.toNat default).Zp)).bind fun r14 => gd [decide (0 ≤ p12), decide (p12 < (a0.Zr.length : Int))] (bif !r14 then (some (.inr (.inr 1))) else ((ZZ (M.Qd a0 p12) 0).bind fun y17 => Sum.elim (fun _ => some (.inl (wr .i64 (p12 + 1)))) (fun y19 => some (.inr (.inr y19))) y17))) else (some (.inr (.inl ())))
noncomputable def M.Qf (a0 : Z6) (p23 : Int) (p27 : Int) : Option (Int ⊕ (Unit ⊕ Int)) :=
  bif decide (p27 < p23) then (gd [decide (0 ≤ p27), decide (p27 < (a0.Zo.length : Int))] (bif (((((a0.Zo.getD p27.toNat default).Zp).Zu) == (((a0.Zo.getD p23.toNat default).Zp).Zu)) && (((((a0.Zo.getD p27.toNat default).Zp).ZJ) == (((a0.Zo.getD p23.toNat default).Zp).ZJ)) && true)) then (some (.inr (.inr 4))) else (some (.inl (wr .i64 (p27 + 1)))))) else (some (.inr (.inl ())))
noncomputable def M.Qg (a0 : Z6) (p23 : Int) : Option (Int ⊕ (Unit ⊕ Int)) :=
  bif decide (p23 < (a0.Zo.length : Int)) then (gd [decide (0 ≤ p23), decide (p23 < (a0.Zo.length : Int))] ((M.YW ((a0.Zo.getD p23.toNat default).Zp)).bind fun r25 => (gc (!(!r25)) (M.YW ((a0.Zo.getD p23.toNat default).fIf))).bind fun r26 => bif (!r25) || (!r26) then (some (.inr (.inr 1))) else (bif (((((a0.Zo.getD p23.toNat default).Zp).Zu) == (((a0.Zo.getD p23.toNat default).fIf).Zu)) && (((((a0.Zo.getD p23.toNat default).Zp).ZJ) == (((a0.Zo.getD p23.toNat default).fIf).ZJ)) && true)) then (some (.inr (.inr 6))) else ((ZZ (M.Qf a0 p23) 0).bind fun y29 => Sum.elim (fun _ => some (.inl (wr .i64 (p23 + 1)))) (fun y31 => some (.inr (.inr y31))) y29)))) else (some (.inr (.inl ())))
noncomputable def M.Jf (a0 : Z6) : Option Int :=
  bif decide ((a0.Zt.length : Int) > 8) then (some 7) else ((ZZ (M.Qc a0) 0).bind fun y9 => Sum.elim (fun _ => bif decide ((a0.Zr.length : Int) > 8) then (some 7) else ((ZZ (M.Qe a0) 0).bind fun y20 => Sum.elim (fun _ => bif decide ((a0.Zo.length : Int) > 8) then (some 7) else ((ZZ (M.Qg a0) 0).bind fun y32 => Sum.elim (fun _ => some 0) (fun y34 => some y34) y32)) (fun y22 => some y22) y20)) (fun y11 => some y11) y9)
noncomputable def M.JA (a0 : Zf) : Option Int :=
  bif !a0.Xd.WI then (bif ((a0.Xd.X7 != 0) || (a0.Xd.X8 != 0)) || (decide ((wr .i64 ((wr .i64 ((wr .i64 ((wr .i64 ((a0.Xd.Zl.length : Int) + (a0.Xd.Zt.length : Int))) + (a0.Xd.Zr.length : Int))) + (a0.Xd.Zo.length : Int))) + (a0.Xd.Zv.length : Int))) > 0)) then (some 1) else (some 0)) else ((gc (!(a0.Kt == 0)) (M.Zz a0.Xd.X7 1 255)).bind fun r1 => (gc (!((a0.Kt == 0) || (!r1))) (M.Zz a0.Xd.X8 1 255)).bind fun r2 => bif ((a0.Kt == 0) || (!r1)) || (!r2) then (some 1) else ((M.Vc a0).bind fun r3 => bif r3 != 0 then (some r3) else ((M.Jf a0.Xd).bind fun r4 => bif r4 != 0 then (some r4) else ((M.Yb a0 a0.Xd.Zv 5 0 16777215).bind fun r5 => some r5))))
noncomputable def M.Jr (r3 : Int) (r4 : Int) (r5 : Int) (r6 : Int) (r7 : Int) (r8 : Int) (r9 : Int) (r10 : Int) (r11 : Int) (r12 : Int) (p13 : Int) : Option (Int ⊕ (Unit ⊕ Int)) :=
  bif decide (p13 < (([r3, r4, r5, r6, r7, r8, r9, r10, r11, r12] : List Int).length : Int)) then (gd [decide (0 ≤ p13), decide (p13 < (([r3, r4, r5, r6, r7, r8, r9, r10, r11, r12] : List Int).length : Int))] (bif (([r3, r4, r5, r6, r7, r8, r9, r10, r11, r12] : List Int).getD p13.toNat default) != 0 then (gd [decide (0 ≤ p13), decide (p13 < (([r3, r4, r5, r6, r7, r8, r9, r10, r11, r12] : List Int).length : Int))] (some (.inr (.inr (([r3, r4, r5, r6, r7, r8, r9, r10, r11, r12] : List Int).getD p13.toNat default))))) else (some (.inl (wr .i64 (p13 + 1)))))) else (some (.inr (.inl ())))
noncomputable def M.Q3 (a0 : Zf) : Option Int :=
  (M.Jn a0.ZX).bind fun r1 => bif !r1 then (some 3) else ((M.Zz a0.Kt 0 65535).bind fun r2 => bif !r2 then (some 1) else ((M.Ju a0.Zc).bind fun r3 => (M.Q1 a0.Xm).bind fun r4 => (M.JU a0).bind fun r5 => (M.Q2 a0.XR).bind fun r6 => (M.QG a0).bind fun r7 => (M.Wo a0).bind fun r8 => (M.VU a0).bind fun r9 => (M.JX a0).bind fun r10 => (M.Vl a0).bind fun r11 => (M.JA a0).bind fun r12 => (ZZ (M.Jr r3 r4 r5 r6 r7 r8 r9 r10 r11 r12) 0).bind fun y15 => Sum.elim (fun _ => some 0) (fun y17 => some y17) y15))
noncomputable def M.Wd (a0 : ZY) (p1 : Int) (p4 : Int) : Option (Int ⊕ (Unit ⊕ Int)) :=
  bif decide (p4 < p1) then (gd [decide (0 ≤ p4), decide (p4 < (a0.Zd.length : Int)), decide (0 ≤ p1), decide (p1 < (a0.Zd.length : Int))] (bif YJ ((a0.Zd.getD p4.toNat default).ZX) ((a0.Zd.getD p1.toNat default).ZX) then (some (.inr (.inr 4))) else (some (.inl (wr .i64 (p4 + 1)))))) else (some (.inr (.inl ())))
noncomputable def M.VJ (a0 : ZY) (p1 : Int) (p9 : Int) (p11 : Int) : Option (Int ⊕ (Unit ⊕ Int)) :=
  bif decide (p11 < p1) then ((gc (((((a0.Zd.getD p1.toNat default).Zc).getD p9.toNat default).ZJ) != 0) (M.Ja (a0.Zd.getD p11.toNat default) ((((a0.Zd.getD p1.toNat default).Zc).getD p9.toNat default).Zu))).bind fun r13 => gd [Ys (((((a0.Zd.getD p1.toNat default).Zc).getD p9.toNat default).ZJ) != 0) (decide (0 ≤ p11)), Ys (((((a0.Zd.getD p1.toNat default).Zc).getD p9.toNat default).ZJ) != 0) (decide (p11 < (a0.Zd.length : Int)))] (bif (((((a0.Zd.getD p1.toNat default).Zc).getD p9.toNat default).ZJ) != 0) && (decide (r13 ≥ 0)) then (some (.inr (.inr 4))) else (some (.inl (wr .i64 (p11 + 1)))))) else (some (.inr (.inl ())))
noncomputable def M.VK (a0 : ZY) (p1 : Int) (p9 : Int) : Option (Int ⊕ (Unit ⊕ Int)) :=
  gd [decide (0 ≤ p1), decide (p1 < (a0.Zd.length : Int))] (bif decide (p9 < (((a0.Zd.getD p1.toNat default).Zc).length : Int)) then (gd [decide (0 ≤ p1), decide (p1 < (a0.Zd.length : Int)), decide (0 ≤ p9), decide (p9 < (((a0.Zd.getD p1.toNat default).Zc).length : Int))] ((ZZ (M.VJ a0 p1 p9) 0).bind fun y14 => Sum.elim (fun _ => some (.inl (wr .i64 (p9 + 1)))) (fun y16 => some (.inr (.inr y16))) y14)) else (some (.inr (.inl ()))))
noncomputable def M.VL (a0 : ZY) (p1 : Int) : Option (Int ⊕ (Unit ⊕ Int)) :=
  bif decide (p1 < (a0.Zd.length : Int)) then ((M.Q3 (a0.Zd.getD p1.toNat default)).bind fun r3 => gd [decide (0 ≤ p1), decide (p1 < (a0.Zd.length : Int))] (bif r3 != 0 then (some (.inr (.inr r3))) else ((ZZ (M.Wd a0 p1) 0).bind fun y6 => Sum.elim (fun _ => (ZZ (M.VK a0 p1) 0).bind fun y17 => Sum.elim (fun _ => some (.inl (wr .i64 (p1 + 1)))) (fun y19 => some (.inr (.inr y19))) y17) (fun y8 => some (.inr (.inr y8))) y6))) else (some (.inr (.inl ())))
noncomputable def M.Wp (a0 : ZY) : Option Int :=
  bif decide ((a0.Zd.length : Int) > 8) then (some 7) else ((ZZ (M.VL a0) 0).bind fun y20 => Sum.elim (fun _ => some 0) (fun y22 => some y22) y20)
noncomputable def M.WE (a0 : ZL) (a1 : ZL) : Option Int :=
  bif (decide (a0.Zu < a1.Zu)) || ((a0.Zu == a1.Zu) && (decide (a0.ZJ < a1.ZJ))) then (some (-1)) else (bif ((a0.Zu == a1.Zu) && ((a0.ZJ == a1.ZJ) && true)) then (some 0) else (some 1))
noncomputable def M.UK (p16 : (List Zk) × Int) (p18 : (List Zk)) : Option (((List Zk) × Int) ⊕ (List Zk)) :=
  some (.inl (p18, wr .i64 (p16.2 + 1)))
noncomputable def M.W5 (a0 : ZY) (p14 : (List Zk) × Int) (p16 : (List Zk) × Int) (r19 : ZL) (p20 : Int) : Option (Int ⊕ Int) :=
  (gc (decide (p20 < (p16.1.length : Int))) (M.WE ((p16.1.getD (0 + p20.toNat) default).Zp) r19)).bind fun r22 => gd [Ys (decide (p20 < (p16.1.length : Int))) (decide (0 ≤ p20)), Ys (decide (p20 < (p16.1.length : Int))) (decide (p20 < (p16.1.length : Int))), Ys ((decide (p20 < (p16.1.length : Int))) && !(decide (r22 < 0))) (decide (0 ≤ p20)), Ys ((decide (p20 < (p16.1.length : Int))) && !(decide (r22 < 0))) (decide (p20 < (p16.1.length : Int))), Ys (((decide (p20 < (p16.1.length : Int))) && !(decide (r22 < 0))) && (((((p16.1.getD (0 + p20.toNat) default).Zp).Zu) == r19.Zu) && (((((p16.1.getD (0 + p20.toNat) default).Zp).ZJ) == r19.ZJ) && true))) (decide (0 ≤ p20)), Ys (((decide (p20 < (p16.1.length : Int))) && !(decide (r22 < 0))) && (((((p16.1.getD (0 + p20.toNat) default).Zp).Zu) == r19.Zu) && (((((p16.1.getD (0 + p20.toNat) default).Zp).ZJ) == r19.ZJ) && true))) (decide (p20 < (p16.1.length : Int)))] (bif (decide (p20 < (p16.1.length : Int))) && ((decide (r22 < 0)) || ((((((p16.1.getD (0 + p20.toNat) default).Zp).Zu) == r19.Zu) && (((((p16.1.getD (0 + p20.toNat) default).Zp).ZJ) == r19.ZJ) && true)) && (decide (((p16.1.getD (0 + p20.toNat) default).Xu) < ((((a0.Zd.getD p14.2.toNat default).Zc).getD p16.2.toNat default).Xu))))) then (some (.inl (wr .i64 (p20 + 1)))) else (some (.inr p20)))
noncomputable def M.UL (p14 : (List Zk) × Int) (p16 : (List Zk) × Int) (y23 : Int) (p24 : (List Zk)) : Option (((List Zk) × Int) ⊕ (List Zk)) :=
  gd [decide (0 ≤ y23), decide (y23 < (p24.length : Int)), decide ((((p24.getD (0 + y23.toNat) default).Xh).length + 1) * 16 ≤ 140737488355328), decide (0 ≤ y23), decide (y23 < (p24.length : Int))] (M.UK p16 (p24.set (0 + y23.toNat) (⟨(p24.getD (0 + y23.toNat) default).Zp, (p24.getD (0 + y23.toNat) default).Xu, ((p24.getD (0 + y23.toNat) default).Xh) ++ [(⟨p14.2, p16.2⟩ : V9)]⟩ : Zk)))
noncomputable def M.W6 (a0 : ZY) (p14 : (List Zk) × Int) (p16 : (List Zk) × Int) : Option (((List Zk) × Int) ⊕ (List Zk)) :=
  gd [decide (0 ≤ p14.2), decide (p14.2 < (a0.Zd.length : Int))] (bif decide (p16.2 < (((a0.Zd.getD p14.2.toNat default).Zc).length : Int)) then (gd [decide (0 ≤ p14.2), decide (p14.2 < (a0.Zd.length : Int)), decide (0 ≤ p16.2), decide (p16.2 < (((a0.Zd.getD p14.2.toNat default).Zc).length : Int))] (bif (((((a0.Zd.getD p14.2.toNat default).Zc).getD p16.2.toNat default).ZJ) == 0) || ((((a0.Zd.getD p14.2.toNat default).Zc).getD p16.2.toNat default).R0) then (M.UK p16 p16.1) else ((M.Q7 ((((a0.Zd.getD p14.2.toNat default).Zc).getD p16.2.toNat default).Zu) ((((a0.Zd.getD p14.2.toNat default).Zc).getD p16.2.toNat default).ZJ)).bind fun r19 => (ZZ (M.W5 a0 p14 p16 r19) 0).bind fun y23 => gd [Ys (!(y23 == (p16.1.length : Int))) (decide (0 ≤ y23)), Ys (!(y23 == (p16.1.length : Int))) (decide (y23 < (p16.1.length : Int))), Ys (!((y23 == (p16.1.length : Int)) || (!(((((p16.1.getD (0 + y23.toNat) default).Zp).Zu) == r19.Zu) && (((((p16.1.getD (0 + y23.toNat) default).Zp).ZJ) == r19.ZJ) && true))))) (decide (0 ≤ y23)), Ys (!((y23 == (p16.1.length : Int)) || (!(((((p16.1.getD (0 + y23.toNat) default).Zp).Zu) == r19.Zu) && (((((p16.1.getD (0 + y23.toNat) default).Zp).ZJ) == r19.ZJ) && true))))) (decide (y23 < (p16.1.length : Int)))] (bif ((y23 == (p16.1.length : Int)) || (!(((((p16.1.getD (0 + y23.toNat) default).Zp).Zu) == r19.Zu) && (((((p16.1.getD (0 + y23.toNat) default).Zp).ZJ) == r19.ZJ) && true)))) || (((p16.1.getD (0 + y23.toNat) default).Xu) != ((((a0.Zd.getD p14.2.toNat default).Zc).getD p16.2.toNat default).Xu)) then (gd [decide (0 ≤ y23), decide (y23 ≤ (p16.1.length : Int)), decide (0 = 0) || decide (0 < (p16.1.length - y23.toNat)), decide ((0 + (p16.1.length - y23.toNat)) * 48 ≤ 140737488355328)] (gd [decide (0 ≤ y23), decide (y23 ≤ (p16.1.length : Int)), decide (((y23.toNat - 0) + 1) * 48 ≤ 140737488355328), decide ((((y23.toNat - 0) + 1) + (0 + (p16.1.length - y23.toNat))) * 48 ≤ 140737488355328)] (M.UL p14 p16 y23 (K0 p16.1 y23.toNat (⟨r19, (((a0.Zd.getD p14.2.toNat default).Zc).getD p16.2.toNat default).Xu, ([] : List V9)⟩ : Zk))))) else (M.UL p14 p16 y23 p16.1))))) else (some (.inr p16.1)))
noncomputable def M.W7 (a0 : ZY) (p14 : (List Zk) × Int) : Option (((List Zk) × Int) ⊕ (List Zk)) :=
  bif decide (p14.2 < (a0.Zd.length : Int)) then ((ZZ (M.W6 a0 p14) (p14.1, 0)).bind fun y25 => some (.inl (y25, wr .i64 (p14.2 + 1)))) else (some (.inr p14.1))
noncomputable def M.UM (p28 : (List Int) × Int) (p30 : (List Int)) : Option (((List Int) × Int) ⊕ (List Int)) :=
  some (.inl (p30, wr .i64 (p28.2 + 1)))
noncomputable def M.W8 (y26 : (List Zk)) (p28 : (List Int) × Int) : Option (((List Int) × Int) ⊕ (List Int)) :=
  bif decide (p28.2 < (y26.length : Int)) then (gd [decide (0 ≤ p28.2), decide (p28.2 < (y26.length : Int))] (bif decide ((((y26.getD p28.2.toNat default).Xh).length : Int) > 1) then (gd [decide ((p28.1.length + 1) * 8 ≤ 140737488355328)] (M.UM p28 (p28.1 ++ [p28.2]))) else (M.UM p28 p28.1))) else (some (.inr p28.1))
noncomputable def M.G4 (a0 : ZY) : Option (QB × Int) :=
  (M.Wp a0).bind fun r1 => bif r1 != 0 then (some ((⟨([] : List Zk), ([] : List Int)⟩ : QB), r1)) else ((ZZ (M.W7 a0) (([] : List Zk), 0)).bind fun y26 => (ZZ (M.W8 y26) (([] : List Int), 0)).bind fun y31 => bif decide ((y31.length : Int) > 12) then (some ((⟨([] : List Zk), ([] : List Int)⟩ : QB), 7)) else (some ((⟨y26, y31⟩ : QB), 0)))
noncomputable def M.WF (a0 : List Int) (a1 : List Int) (p1 : Int) : Option (Int ⊕ (Unit ⊕ Bool)) :=
  bif decide (p1 < (a0.length : Int)) then (gd [decide (0 ≤ p1), decide (p1 < (a0.length : Int)), decide (0 ≤ p1), decide (p1 < (a1.length : Int))] (bif (a0.getD p1.toNat default) != (a1.getD p1.toNat default) then (some (.inr (.inr false))) else (some (.inl (wr .i64 (p1 + 1)))))) else (some (.inr (.inl ())))
noncomputable def M.Gb (a0 : List Int) (a1 : List Int) : Option Bool :=
  bif (a0.length : Int) != (a1.length : Int) then (some false) else ((ZZ (M.WF a0 a1) 0).bind fun y3 => Sum.elim (fun _ => some true) (fun y5 => some y5) y3)
noncomputable def M.WG (a0 : List V9) (a1 : List V9) (p1 : Int) : Option (Int ⊕ (Unit ⊕ Bool)) :=
  bif decide (p1 < (a0.length : Int)) then (gd [decide (0 ≤ p1), decide (p1 < (a0.length : Int)), decide (0 ≤ p1), decide (p1 < (a1.length : Int))] (bif !((((a0.getD p1.toNat default).KO) == ((a1.getD p1.toNat default).KO)) && ((((a0.getD p1.toNat default).QI) == ((a1.getD p1.toNat default).QI)) && true)) then (some (.inr (.inr false))) else (some (.inl (wr .i64 (p1 + 1)))))) else (some (.inr (.inl ())))
noncomputable def M.Gc (a0 : List V9) (a1 : List V9) : Option Bool :=
  bif (a0.length : Int) != (a1.length : Int) then (some false) else ((ZZ (M.WG a0 a1) 0).bind fun y3 => Sum.elim (fun _ => some true) (fun y5 => some y5) y3)
noncomputable def M.VF (a0 : QB) (a1 : QB) (p2 : Int) : Option (Int ⊕ (Unit ⊕ Bool)) :=
  bif decide (p2 < (a0.XW.length : Int)) then (gd [decide (0 ≤ p2), decide (p2 < (a0.XW.length : Int)), decide (0 ≤ p2), decide (p2 < (a1.XW.length : Int))] ((gc (!((!(((((a0.XW.getD p2.toNat default).Zp).Zu) == (((a1.XW.getD p2.toNat default).Zp).Zu)) && (((((a0.XW.getD p2.toNat default).Zp).ZJ) == (((a1.XW.getD p2.toNat default).Zp).ZJ)) && true))) || (((a0.XW.getD p2.toNat default).Xu) != ((a1.XW.getD p2.toNat default).Xu)))) (M.Gc ((a0.XW.getD p2.toNat default).Xh) ((a1.XW.getD p2.toNat default).Xh))).bind fun r4 => bif ((!(((((a0.XW.getD p2.toNat default).Zp).Zu) == (((a1.XW.getD p2.toNat default).Zp).Zu)) && (((((a0.XW.getD p2.toNat default).Zp).ZJ) == (((a1.XW.getD p2.toNat default).Zp).ZJ)) && true))) || (((a0.XW.getD p2.toNat default).Xu) != ((a1.XW.getD p2.toNat default).Xu))) || (!r4) then (some (.inr (.inr false))) else (some (.inl (wr .i64 (p2 + 1)))))) else (some (.inr (.inl ())))
noncomputable def M.W9 (a0 : QB) (a1 : QB) : Option Bool :=
  (gc (!((a0.XW.length : Int) != (a1.XW.length : Int))) (M.Gb a0.WP a1.WP)).bind fun r1 => bif ((a0.XW.length : Int) != (a1.XW.length : Int)) || (!r1) then (some false) else ((ZZ (M.VF a0 a1) 0).bind fun y5 => Sum.elim (fun _ => some true) (fun y7 => some y7) y5)
noncomputable def M.Ua  : Option ZY :=
  some (⟨([(⟨(⟨#[97]⟩ : ByteArray), 0, ([(⟨(⟨#[101, 48]⟩ : ByteArray), 167772161, 24, 0, false, false, 0, 0, false, (⟨#[]⟩ : ByteArray), (⟨#[]⟩ : ByteArray), 0⟩ : Zy)] : List Zy), ([] : List Z3), ([] : List X4), ([] : List WU), ([] : List YZ), ([] : List Yf), (⟨false, 0, ([] : List Wg), ([] : List YB)⟩ : Wv), (⟨false, 0, (⟨#[]⟩ : ByteArray), (⟨#[]⟩ : ByteArray), ([] : List YB)⟩ : QD), (⟨false, 0, 0, ([] : List VD), ([] : List ZL), ([] : List Wh), ([] : List Wi), ([] : List YB)⟩ : Z6)⟩ : Zf), (⟨(⟨#[98]⟩ : ByteArray), 0, ([(⟨(⟨#[101, 48]⟩ : ByteArray), 167772162, 24, 0, false, false, 0, 0, false, (⟨#[]⟩ : ByteArray), (⟨#[]⟩ : ByteArray), 0⟩ : Zy), (⟨(⟨#[101, 49]⟩ : ByteArray), 167772418, 24, 0, false, false, 0, 0, false, (⟨#[]⟩ : ByteArray), (⟨#[]⟩ : ByteArray), 0⟩ : Zy)] : List Zy), ([] : List Z3), ([] : List X4), ([] : List WU), ([] : List YZ), ([] : List Yf), (⟨false, 0, ([] : List Wg), ([] : List YB)⟩ : Wv), (⟨false, 0, (⟨#[]⟩ : ByteArray), (⟨#[]⟩ : ByteArray), ([] : List YB)⟩ : QD), (⟨false, 0, 0, ([] : List VD), ([] : List ZL), ([] : List Wh), ([] : List Wi), ([] : List YB)⟩ : Z6)⟩ : Zf)] : List Zf)⟩ : ZY)
noncomputable def M.X0 (a0 : List Zf) : Option (List Zf) :=
  gd [decide (0 = 0) || decide (0 < a0.length), decide ((0 + a0.length) * 448 ≤ 140737488355328)] (some a0)
noncomputable def M.XD (a0 : List Zy) : Option (List Zy) :=
  gd [decide (0 = 0) || decide (0 < a0.length), decide ((0 + a0.length) * 112 ≤ 140737488355328)] (some a0)
noncomputable def M.Xy (a0 : List Z3) : Option (List Z3) :=
  gd [decide (0 = 0) || decide (0 < a0.length), decide ((0 + a0.length) * 40 ≤ 140737488355328)] (some a0)
noncomputable def M.XK (a0 : List X4) : Option (List X4) :=
  gd [decide (0 = 0) || decide (0 < a0.length), decide ((0 + a0.length) * 40 ≤ 140737488355328)] (some a0)
noncomputable def M.Yp (a0 : List WU) : Option (List WU) :=
  gd [decide (0 = 0) || decide (0 < a0.length), decide ((0 + a0.length) * 40 ≤ 140737488355328)] (some a0)
noncomputable def M.Xr (a0 : List YZ) : Option (List YZ) :=
  gd [decide (0 = 0) || decide (0 < a0.length), decide ((0 + a0.length) * 64 ≤ 140737488355328)] (some a0)
noncomputable def M.Xs (a0 : List Yf) : Option (List Yf) :=
  gd [decide (0 = 0) || decide (0 < a0.length), decide ((0 + a0.length) * 64 ≤ 140737488355328)] (some a0)
noncomputable def M.XE (a0 : List Wg) : Option (List Wg) :=
  gd [decide (0 = 0) || decide (0 < a0.length), decide ((0 + a0.length) * 24 ≤ 140737488355328)] (some a0)
noncomputable def M.Xk (a0 : List YB) : Option (List YB) :=
  gd [decide (0 = 0) || decide (0 < a0.length), decide ((0 + a0.length) * 48 ≤ 140737488355328)] (some a0)
noncomputable def M.XL (a0 : List VD) : Option (List VD) :=
  gd [decide (0 = 0) || decide (0 < a0.length), decide ((0 + a0.length) * 48 ≤ 140737488355328)] (some a0)
noncomputable def M.X1 (a0 : List ZL) : Option (List ZL) :=
  gd [decide (0 = 0) || decide (0 < a0.length), decide ((0 + a0.length) * 16 ≤ 140737488355328)] (some a0)
noncomputable def M.XF (a0 : List Wh) : Option (List Wh) :=
  gd [decide (0 = 0) || decide (0 < a0.length), decide ((0 + a0.length) * 24 ≤ 140737488355328)] (some a0)
noncomputable def M.XG (a0 : List Wi) : Option (List Wi) :=
  gd [decide (0 = 0) || decide (0 < a0.length), decide ((0 + a0.length) * 40 ≤ 140737488355328)] (some a0)
noncomputable def M.Vd (r2 : (List Z3)) (p3 : Int) : Option (Int ⊕ Unit) :=
  bif decide (p3 < (r2.length : Int)) then none else (some (.inr ()))
noncomputable def M.Ve (r6 : (List X4)) (p7 : Int) : Option (Int ⊕ Unit) :=
  bif decide (p7 < (r6.length : Int)) then none else (some (.inr ()))
noncomputable def M.Vf (r10 : (List WU)) (p11 : Int) : Option (Int ⊕ Unit) :=
  bif decide (p11 < (r10.length : Int)) then none else (some (.inr ()))
noncomputable def M.VV (a0 : Zf) : Option Zf :=
  (M.XD a0.Zc).bind fun r1 => (M.Xy a0.Xm).bind fun r2 => (ZZ (M.Vd r2) 0).bind fun y5 => (M.XK a0.Xa).bind fun r6 => (ZZ (M.Ve r6) 0).bind fun y9 => (M.Yp a0.XR).bind fun r10 => (ZZ (M.Vf r10) 0).bind fun y13 => (M.Xr a0.Xf).bind fun r14 => (M.Xs a0.Zq).bind fun r15 => (M.XE a0.Yl.ZK).bind fun r16 => (M.Xk a0.Yl.Zv).bind fun r17 => (M.Xk a0.YH.Zv).bind fun r18 => (M.XL a0.Xd.Zl).bind fun r19 => (M.X1 a0.Xd.Zt).bind fun r20 => (M.XF a0.Xd.Zr).bind fun r21 => (M.XG a0.Xd.Zo).bind fun r22 => (M.Xk a0.Xd.Zv).bind fun r23 => some (⟨a0.ZX, a0.Kt, r1, r2, r6, r10, r14, r15, (⟨a0.Yl.WI, a0.Yl.Xl, r16, r17⟩ : Wv), (⟨a0.YH.WI, a0.YH.Xl, a0.YH.V7, a0.YH.Y2, r18⟩ : QD), (⟨a0.Xd.WI, a0.Xd.X7, a0.Xd.X8, r19, r20, r21, r22, r23⟩ : Z6)⟩ : Zf)
noncomputable def M.J2 (r1 : (List Zf)) (p2 : (List Zf) × Int) : Option (((List Zf) × Int) ⊕ (List Zf)) :=
  bif decide (p2.2 < (r1.length : Int)) then ((M.VV (p2.1.getD (0 + p2.2.toNat) default)).bind fun r4 => gd [decide (0 ≤ p2.2), decide (p2.2 < (p2.1.length : Int)), decide (0 ≤ p2.2), decide (p2.2 < (p2.1.length : Int))] (some (.inl (p2.1.set (0 + p2.2.toNat) r4, wr .i64 (p2.2 + 1))))) else (some (.inr p2.1))
noncomputable def M.Vq (a0 : ZY) : Option ZY :=
  (M.X0 a0.Zd).bind fun r1 => (ZZ (M.J2 r1) (r1, 0)).bind fun y5 => some (⟨y5⟩ : ZY)
noncomputable def M.Jg (a0 : List Int) : Option (List Int) :=
  gd [decide (0 = 0) || decide (0 < a0.length), decide ((0 + a0.length) * 8 ≤ 140737488355328)] (some a0)
noncomputable def M.Uo (a1 : List Int) (r1 : QB × Int) (p2 : Int) : Option (Int ⊕ Unit) :=
  bif decide (p2 < (a1.length : Int)) then (gd [decide (0 ≤ p2), decide (p2 < (a1.length : Int))] (gd [Ys ((!((decide ((a1.getD p2.toNat default) < 0)) || (decide ((a1.getD p2.toNat default) ≥ (r1.1.WP.length : Int))))) && (decide (p2 > 0))) (decide (0 ≤ (wr .i64 (p2 - 1)))), Ys ((!((decide ((a1.getD p2.toNat default) < 0)) || (decide ((a1.getD p2.toNat default) ≥ (r1.1.WP.length : Int))))) && (decide (p2 > 0))) (decide ((wr .i64 (p2 - 1)) < (a1.length : Int)))] (bif ((decide ((a1.getD p2.toNat default) < 0)) || (decide ((a1.getD p2.toNat default) ≥ (r1.1.WP.length : Int)))) || ((decide (p2 > 0)) && (decide ((a1.getD p2.toNat default) ≤ (a1.getD (wr .i64 (p2 - 1)).toNat default)))) then none else (some (.inl (wr .i64 (p2 + 1))))))) else (some (.inr ()))
noncomputable def M.UN (a0 : ZY) (a1 : List Int) : Option (GS × Int) :=
  (M.Wx a0).bind fun r1 => bif r1.2 != 0 then none else (bif decide ((a1.length : Int) > 2) then none else ((ZZ (M.Uo a1 r1) 0).bind fun y4 => (M.Vq a0).bind fun r5 => (M.Jg a1).bind fun r6 => some ((⟨r5, r1.1, r6⟩ : GS), 0)))
noncomputable def M.Yo (a0 : List V9) (a1 : V9) (p1 : Int) : Option (Int ⊕ (Unit ⊕ Int)) :=
  bif decide (p1 < (a0.length : Int)) then (gd [decide (0 ≤ p1), decide (p1 < (a0.length : Int))] (bif ((a1.KO == ((a0.getD p1.toNat default).KO)) && ((a1.QI == ((a0.getD p1.toNat default).QI)) && true)) then (some (.inr (.inr p1))) else (some (.inl (wr .i64 (p1 + 1)))))) else (some (.inr (.inl ())))
noncomputable def M.Yq (a0 : List V9) (a1 : V9) : Option Int :=
  (ZZ (M.Yo a0 a1) 0).bind fun y3 => Sum.elim (fun _ => some (-1)) (fun y5 => some y5) y3
noncomputable def M.Ya (a0 : List V9) (a1 : V9) : Option Bool :=
  (M.Yq a0 a1).bind fun r1 => some (decide (r1 ≥ 0))
noncomputable def M.WM (a0 : GS) (a1 : Int) (a2 : Int) (p1 : Int) : Option (Int ⊕ (Unit ⊕ Int)) :=
  bif decide (p1 < (a0.UA.XW.length : Int)) then (gd [decide (0 ≤ p1), decide (p1 < (a0.UA.XW.length : Int))] ((M.Ya ((a0.UA.XW.getD p1.toNat default).Xh) (⟨a1, a2⟩ : V9)).bind fun r3 => bif r3 then (some (.inr (.inr p1))) else (some (.inl (wr .i64 (p1 + 1)))))) else (some (.inr (.inl ())))
noncomputable def M.WN (a0 : GS) (a1 : Int) (a2 : Int) : Option Int :=
  (ZZ (M.WM a0 a1 a2) 0).bind fun y4 => Sum.elim (fun _ => none) (fun y6 => some y6) y4
noncomputable def M.QT (a0 : List Int) (a1 : Int) (p1 : Int) : Option (Int ⊕ (Unit ⊕ Int)) :=
  bif decide (p1 < (a0.length : Int)) then (gd [decide (0 ≤ p1), decide (p1 < (a0.length : Int))] (bif a1 == (a0.getD p1.toNat default) then (some (.inr (.inr p1))) else (some (.inl (wr .i64 (p1 + 1)))))) else (some (.inr (.inl ())))
noncomputable def M.Qh (a0 : List Int) (a1 : Int) : Option Int :=
  (ZZ (M.QT a0 a1) 0).bind fun y3 => Sum.elim (fun _ => some (-1)) (fun y5 => some y5) y3
noncomputable def M.GC (a0 : GS) (a1 : Int) (a2 : Int) : Option Int :=
  (M.WN a0 a1 a2).bind fun r1 => bif decide (r1 < 0) then none else ((M.Qh a0.UA.WP r1).bind fun r2 => some r2)
noncomputable def M.Qm (a0 : List Int) (a1 : Int) : Option Bool :=
  (M.Qh a0 a1).bind fun r1 => some (decide (r1 ≥ 0))
noncomputable def M.GD (a0 : GS) (a1 : Int) (a2 : Int) : Option Bool :=
  (M.WN a0 a1 a2).bind fun r1 => bif decide (r1 < 0) then none else ((M.GC a0 a1 a2).bind fun r2 => (gc (!(decide (r2 < 0))) (M.Qm a0.R0 r2)).bind fun r3 => some ((decide (r2 < 0)) || (!r3)))
noncomputable def M.UY  : Option Bool :=
  (M.Ua).bind fun r1 => (M.UN r1 ([] : List Int)).bind fun r2 => (M.Ua).bind fun r3 => (M.UN r3 ([0] : List Int)).bind fun r4 => (gc ((((r2.2 == 0) && (r4.2 == 0)) && ((r2.1.UA.XW.length : Int) == 2)) && ((r2.1.UA.WP.length : Int) == 1)) (M.GD r2.1 0 0)).bind fun r5 => (gc (((((r2.2 == 0) && (r4.2 == 0)) && ((r2.1.UA.XW.length : Int) == 2)) && ((r2.1.UA.WP.length : Int) == 1)) && r5) (M.GD r4.1 0 0)).bind fun r6 => (gc ((((((r2.2 == 0) && (r4.2 == 0)) && ((r2.1.UA.XW.length : Int) == 2)) && ((r2.1.UA.WP.length : Int) == 1)) && r5) && (!r6)) (M.GD r4.1 1 1)).bind fun r7 => some (((((((r2.2 == 0) && (r4.2 == 0)) && ((r2.1.UA.XW.length : Int) == 2)) && ((r2.1.UA.WP.length : Int) == 1)) && r5) && (!r6)) && r7)
noncomputable def M.GE (a0 : ZY) : Option Bool :=
  (M.V2 a0).bind fun r1 => bif !r1 then (some true) else ((M.Wx a0).bind fun r2 => (M.G4 a0).bind fun r3 => (gc (r2.2 == r3.2) (M.W9 r2.1 r3.1)).bind fun r4 => (gc ((r2.2 == r3.2) && r4) M.UY).bind fun r5 => some (((r2.2 == r3.2) && r4) && r5))
end Nv
