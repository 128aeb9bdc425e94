/- The mirrors: what each function of the given program computes, in plain terms. -/
import Derived.Test.YtaienbkgekjdnaaGreatNvLibB
import Derived.Test.YtaienbkgekjdnaaGreatNvLibD
import Derived.Test.YtaienbkgekjdnaaGreatNvLibC
set_option maxRecDepth 100000
namespace Nv
open Go
structure Zl where
  Xj : ByteArray
  Zy : Int
  ZW : Int
  XD : Int
  Qy : Bool
  Yi : Bool
  V8 : Int
  ZbZ : Int
  Yn : Bool
  VS : ByteArray
  Y7 : ByteArray
  RJ : Int
  deriving Inhabited
def Zj (x : Zl) : List D := [.str x.Xj, .int .u32 x.Zy, .int .i64 x.ZW, .int .i64 x.XD, .bool x.Qy, .bool x.Yi, .int .i64 x.V8, .int .i64 x.ZbZ, .bool x.Yn, .str x.VS, .str x.Y7, .int .i64 x.RJ]
structure ZZ where
  Zy : Int
  ZW : Int
  deriving Inhabited
def Xd (x : ZZ) : List D := [.int .u32 x.Zy, .int .i64 x.ZW]
structure Un where
  Zb0 : Bool
  Zo : ZZ
  Ziz : Int
  ZiA : Int
  deriving Inhabited
def Ke (x : Un) : List D := [.bool x.Zb0, .int .u32 x.Zo.Zy, .int .i64 x.Zo.ZW, .int .i64 x.Ziz, .int .i64 x.ZiA]
structure Z2 where
  Xj : ByteArray
  YG : List Un
  deriving Inhabited
def Zw (x : Z2) : List D := [.str x.Xj, sL 5 Ke x.YG]
structure Zax where
  Zb0 : Bool
  J1 : ByteArray
  KN : Int
  GJ : Int
  Zb1 : Int
  RK : Int
  RL : Int
  deriving Inhabited
def Zfo (x : Zax) : List D := [.bool x.Zb0, .str x.J1, .int .i64 x.KN, .int .i64 x.GJ, .int .i64 x.Zb1, .int .i64 x.RK, .int .i64 x.RL]
structure Ya where
  Xj : ByteArray
  XZ : List Zax
  deriving Inhabited
def Z0 (x : Ya) : List D := [.str x.Xj, sL 7 Zfo x.XZ]
structure Zay where
  Zy : Int
  Gw : Int
  deriving Inhabited
def ZgR (x : Zay) : List D := [.int .u32 x.Zy, .int .u32 x.Gw]
structure VK where
  Kt : Int
  Re : Int
  deriving Inhabited
def KO (x : VK) : List D := [.int .i64 x.Kt, .int .i64 x.Re]
structure Zey where
  Zb0 : Bool
  YQ : Int
  Zbe : Zay
  Zbf : Zay
  Uv : VK
  Uw : VK
  deriving Inhabited
def ZfX (x : Zey) : List D := [.bool x.Zb0, .int .i64 x.YQ, .int .u32 x.Zbe.Zy, .int .u32 x.Zbe.Gw, .int .u32 x.Zbf.Zy, .int .u32 x.Zbf.Gw, .int .i64 x.Uv.Kt, .int .i64 x.Uv.Re, .int .i64 x.Uw.Kt, .int .i64 x.Uw.Re]
structure Ud where
  Xj : ByteArray
  YG : List Zey
  deriving Inhabited
def Yu (x : Ud) : List D := [.str x.Xj, sL 10 ZfX x.YG]
structure YR where
  WC : Int
  Jy : Int
  Qz : Int
  YQ : Int
  JS : Int
  Jf : Int
  J1 : ByteArray
  Kt : Int
  Re : Int
  deriving Inhabited
def Z3 (x : YR) : List D := [.int .i64 x.WC, .int .u32 x.Jy, .int .u32 x.Qz, .int .i64 x.YQ, .int .i64 x.JS, .int .i64 x.Jf, .str x.J1, .int .u32 x.Kt, .int .u32 x.Re]
structure YS where
  Zo : ZZ
  U0 : Int
  J2 : ByteArray
  Zez : Bool
  Xr : Int
  KN : Int
  deriving Inhabited
def Z9 (x : YS) : List D := [.int .u32 x.Zo.Zy, .int .i64 x.Zo.ZW, .int .u32 x.U0, .str x.J2, .bool x.Zez, .int .i64 x.Xr, .int .i64 x.KN]
structure J3 where
  V8 : Int
  Zo : ZZ
  deriving Inhabited
def Xz (x : J3) : List D := [.int .i64 x.V8, .int .u32 x.Zo.Zy, .int .i64 x.Zo.ZW]
structure YJ where
  GK : Int
  Zb2 : Int
  KN : Int
  ZcM : ByteArray
  Zdg : Int
  deriving Inhabited
def Zz (x : YJ) : List D := [.int .i64 x.GK, .int .i64 x.Zb2, .int .i64 x.KN, .str x.ZcM, .int .i64 x.Zdg]
structure Vl where
  Vz : Bool
  Xr : Int
  Z4 : List J3
  Zs : List YJ
  deriving Inhabited
def Zb3 (x : Vl) : List D := [.bool x.Vz, .int .i64 x.Xr, sL 3 Xz x.Z4, sL 5 Zz x.Zs]
structure YC where
  Vz : Bool
  Xr : Int
  VS : ByteArray
  Y7 : ByteArray
  Zs : List YJ
  deriving Inhabited
def Zb4 (x : YC) : List D := [.bool x.Vz, .int .i64 x.Xr, .str x.VS, .str x.Y7, sL 5 Zz x.Zs]
structure Jr where
  Zy : Int
  GA : Int
  VS : ByteArray
  Y7 : ByteArray
  deriving Inhabited
def XK (x : Jr) : List D := [.int .u32 x.Zy, .int .i64 x.GA, .str x.VS, .str x.Y7]
structure J4 where
  Zo : ZZ
  ZlL : Bool
  deriving Inhabited
def XA (x : J4) : List D := [.int .u32 x.Zo.Zy, .int .i64 x.Zo.ZW, .bool x.ZlL]
structure J5 where
  Zo : ZZ
  fIf : ZZ
  ZkW : Bool
  deriving Inhabited
def Xt (x : J5) : List D := [.int .u32 x.Zo.Zy, .int .i64 x.Zo.ZW, .int .u32 x.fIf.Zy, .int .i64 x.fIf.ZW, .bool x.ZkW]
structure Xy where
  Vz : Bool
  XX : Int
  XY : Int
  Zm : List Jr
  Z1 : List ZZ
  ZE : List J4
  Zt : List J5
  Zs : List YJ
  deriving Inhabited
def Gh (x : Xy) : List D := [.bool x.Vz, .int .i64 x.XX, .int .i64 x.XY, sL 4 XK x.Zm, sL 2 Xd x.Z1, sL 3 XA x.ZE, sL 5 Xt x.Zt, sL 5 Zz x.Zs]
structure Zf where
  Xj : ByteArray
  GA : Int
  Zc : List Zl
  Yv : List Z2
  XE : List Ya
  YD : List Ud
  Xa : List YR
  Zq : List YS
  Yi : Vl
  Yn : YC
  Xs : Xy
  deriving Inhabited
def Zp (x : Zf) : List D := [.str x.Xj, .int .i64 x.GA, sL 12 Zj x.Zc, sL 2 Zw x.Yv, sL 2 Z0 x.XE, sL 2 Yu x.YD, sL 9 Z3 x.Xa, sL 7 Z9 x.Zq, .bool x.Yi.Vz, .int .i64 x.Yi.Xr, sL 3 Xz x.Yi.Z4, sL 5 Zz x.Yi.Zs, .bool x.Yn.Vz, .int .i64 x.Yn.Xr, .str x.Yn.VS, .str x.Yn.Y7, sL 5 Zz x.Yn.Zs, .bool x.Xs.Vz, .int .i64 x.Xs.XX, .int .i64 x.Xs.XY, sL 4 XK x.Xs.Zm, sL 2 Xd x.Xs.Z1, sL 3 XA x.Xs.ZE, sL 5 Xt x.Xs.Zt, sL 5 Zz x.Xs.Zs]
structure ZB where
  Zd : List Zf
  deriving Inhabited
def XH (x : ZB) : List D := [sL 25 Zp x.Zd]
structure Qo where
  Xp : Int
  J2 : Int
  deriving Inhabited
def ZY (x : Qo) : List D := [.int .i64 x.Xp, .int .i64 x.J2]
structure Zh where
  Zo : ZZ
  XD : Int
  ZU : List Qo
  deriving Inhabited
def ZF (x : Zh) : List D := [.int .u32 x.Zo.Zy, .int .i64 x.Zo.ZW, .int .i64 x.XD, sL 2 ZY x.ZU]
structure Qr where
  Zv : List Zh
  XB : List Int
  deriving Inhabited
def G7 (x : Qr) : List D := [sL 4 ZF x.Zv, sL 1 (ci .i64) x.XB]
structure Xq where
  X5 : ZB
  ZV : Qr
  Qy : List Int
  deriving Inhabited
def XI (x : Xq) : List D := [sL 25 Zp x.X5.Zd, sL 4 ZF x.ZV.Zv, sL 1 (ci .i64) x.ZV.XB, sL 1 (ci .i64) x.Qy]
structure Z8 where
  Zaz : ZZ
  ZjY : Int
  deriving Inhabited
def Z5 (x : Z8) : List D := [.int .u32 x.Zaz.Zy, .int .i64 x.Zaz.ZW, .int .i64 x.ZjY]
def hdDom (x : Zh) : List D := [.int .u32 x.Zo.Zy, .int .i64 x.Zo.ZW, .int .i64 x.XD]
def topoKeyEq (a b : Z8) : Bool := (((a.Zaz.Zy == b.Zaz.Zy) && ((a.Zaz.ZW == b.Zaz.ZW) && true)) && ((a.ZjY == b.ZjY) && true))
noncomputable def M.Vp (a0 : Zf) (p1 : Int) : Option (Int ⊕ (Unit ⊕ Bool)) :=
  bif decide (p1 < (a0.Yv.length : Int)) then (gd [decide (0 ≤ p1), decide (p1 < (a0.Yv.length : Int))] (bif decide ((((a0.Yv.getD p1.toNat default).YG).length : Int) > 20) then (some (.inr (.inr false))) else (some (.inl (wr .i64 (p1 + 1)))))) else (some (.inr (.inl ())))
noncomputable def M.Vq (a0 : Zf) (p6 : Int) : Option (Int ⊕ (Unit ⊕ Bool)) :=
  bif decide (p6 < (a0.XE.length : Int)) then (gd [decide (0 ≤ p6), decide (p6 < (a0.XE.length : Int))] (bif decide ((((a0.XE.getD p6.toNat default).XZ).length : Int) > 12) then (some (.inr (.inr false))) else (some (.inl (wr .i64 (p6 + 1)))))) else (some (.inr (.inl ())))
noncomputable def M.Vr (a0 : Zf) (p11 : Int) : Option (Int ⊕ (Unit ⊕ Bool)) :=
  bif decide (p11 < (a0.YD.length : Int)) then (gd [decide (0 ≤ p11), decide (p11 < (a0.YD.length : Int))] (bif decide ((((a0.YD.getD p11.toNat default).YG).length : Int) > 20) then (some (.inr (.inr false))) else (some (.inl (wr .i64 (p11 + 1)))))) else (some (.inr (.inl ())))
noncomputable def M.Vm (a0 : Zf) : Option Bool :=
  bif (((((((((((((decide ((a0.Zc.length : Int) > 12)) || (decide ((a0.Yv.length : Int) > 12))) || (decide ((a0.XE.length : Int) > 12))) || (decide ((a0.YD.length : Int) > 12))) || (decide ((a0.Xa.length : Int) > 12))) || (decide ((a0.Zq.length : Int) > 20))) || (decide ((a0.Yi.Z4.length : Int) > 8))) || (decide ((a0.Yi.Zs.length : Int) > 8))) || (decide ((a0.Yn.Zs.length : Int) > 8))) || (decide ((a0.Xs.Zs.length : Int) > 8))) || (decide ((a0.Xs.Zm.length : Int) > 12))) || (decide ((a0.Xs.Z1.length : Int) > 12))) || (decide ((a0.Xs.ZE.length : Int) > 12))) || (decide ((a0.Xs.Zt.length : Int) > 12)) then (some false) else ((loopM (M.Vp a0) 0).bind fun y3 => Sum.elim (fun _ => (loopM (M.Vq a0) 0).bind fun y8 => Sum.elim (fun _ => (loopM (M.Vr a0) 0).bind fun y13 => Sum.elim (fun _ => some true) (fun y15 => some y15) y13) (fun y10 => some y10) y8) (fun y5 => some y5) y3)
noncomputable def M.Qi (a0 : ZB) (p1 : Int) : Option (Int ⊕ (Unit ⊕ Bool)) :=
  bif decide (p1 < (a0.Zd.length : Int)) then ((M.Vm (a0.Zd.getD p1.toNat default)).bind fun r3 => gd [decide (0 ≤ p1), decide (p1 < (a0.Zd.length : Int))] (bif !r3 then (some (.inr (.inr false))) else (some (.inl (wr .i64 (p1 + 1)))))) else (some (.inr (.inl ())))
noncomputable def M.JT (a0 : ZB) : Option Bool :=
  bif decide ((a0.Zd.length : Int) > 9) then (some false) else ((loopM (M.Qi a0) 0).bind fun y4 => Sum.elim (fun _ => some true) (fun y6 => some y6) y4)
noncomputable def M.VA (a0 : Int) : Option Bool :=
  some (((decide (a0 ≥ 97)) && (decide (a0 ≤ 122))) || ((decide (a0 ≥ 65)) && (decide (a0 ≤ 90))))
noncomputable def M.VT (a0 : ByteArray) (p2 : Int) : Option (Int ⊕ (Unit ⊕ Bool)) :=
  bif decide (p2 < (a0.size : Int)) then (gd [decide (0 ≤ p2), decide (p2 < (a0.size : Int))] ((M.VA (byteAt a0 p2)).bind fun r4 => bif (((((!r4) && (!((decide ((byteAt a0 p2) ≥ 48)) && (decide ((byteAt a0 p2) ≤ 57))))) && ((byteAt a0 p2) != 45)) && ((byteAt a0 p2) != 95)) && ((byteAt a0 p2) != 47)) && ((byteAt a0 p2) != 46) then (some (.inr (.inr false))) else (some (.inl (wr .i64 (p2 + 1)))))) else (some (.inr (.inl ())))
noncomputable def M.QW (a0 : ByteArray) : Option Bool :=
  (gc (!((decide ((a0.size : Int) < 1)) || (decide ((a0.size : Int) > 15)))) (M.VA (byteAt a0 0))).bind fun r1 => gd [guardB (!((decide ((a0.size : Int) < 1)) || (decide ((a0.size : Int) > 15)))) (decide (0 ≤ 0)), guardB (!((decide ((a0.size : Int) < 1)) || (decide ((a0.size : Int) > 15)))) (decide (0 < (a0.size : Int)))] (bif ((decide ((a0.size : Int) < 1)) || (decide ((a0.size : Int) > 15))) || (!r1) then (some false) else ((loopM (M.VT a0) 1).bind fun y5 => Sum.elim (fun _ => some true) (fun y7 => some y7) y5))
noncomputable def M.ZX (a0 : Int) (a1 : Int) (a2 : Int) : Option Bool :=
  some ((decide (a1 ≤ a0)) && (decide (a0 ≤ a2)))
noncomputable def M.U1 (p1 : Int × Int) (p3 : Int) : Option ((Int × Int) ⊕ Int) :=
  some (.inl (p3, wr .i64 (p1.2 + 1)))
noncomputable def M.W0 (a0 : Int) (p1 : Int × Int) : Option ((Int × Int) ⊕ Int) :=
  bif decide (p1.2 < 32) then (bif decide (p1.2 < a0) then (gd [decide (0 ≤ (wr .u64 (wr .i64 (31 - p1.2))))] (M.U1 p1 (bitD .or .u32 p1.1 (wr .u32 (1 * 2 ^ min (wr .u64 (wr .i64 (31 - p1.2))).toNat 32))))) else (M.U1 p1 p1.1)) else (some (.inr p1.1))
noncomputable def M.Jg (a0 : Int) : Option Int :=
  (loopM (M.W0 a0) (0, 0)).bind fun y4 => some y4
noncomputable def M.Qs (a0 : Int) (a1 : Int) : Option ZZ :=
  (M.Jg (if 0 > (if 32 < a1 then 32 else a1) then 0 else (if 32 < a1 then 32 else a1))).bind fun r1 => some (⟨bitD .and .u32 a0 r1, if 0 > (if 32 < a1 then 32 else a1) then 0 else (if 32 < a1 then 32 else a1)⟩ : ZZ)
noncomputable def M.J0 (a0 : ZZ) (a1 : Int) : Option Bool :=
  (M.Jg a0.ZW).bind fun r1 => some ((bitD .and .u32 a1 r1) == a0.Zy)
noncomputable def M.JU (a0 : ZZ) (a1 : ZZ) : Option Bool :=
  (gc (decide (a0.ZW ≤ a1.ZW)) (M.J0 a0 a1.Zy)).bind fun r1 => some ((decide (a0.ZW ≤ a1.ZW)) && r1)
noncomputable def M.Ql (a0 : ZZ) (a1 : ZZ) : Option Bool :=
  (M.JU a0 a1).bind fun r1 => (gc (!r1) (M.JU a1 a0)).bind fun r2 => some (r1 || r2)
noncomputable def M.YH (a0 : List Zl) (p1 : Int) (p4 : Int) : Option (Int ⊕ (Unit ⊕ Int)) :=
  bif decide (p4 < p1) then (gd [decide (0 ≤ p4), decide (p4 < (a0.length : Int))] (bif strEq ((a0.getD p4.toNat default).Xj) ((a0.getD p1.toNat default).Xj) then (some (.inr (.inr 4))) else (some (.inl (wr .i64 (p4 + 1)))))) else (some (.inr (.inl ())))
noncomputable def M.Yo (a0 : List Zl) (p1 : Int) (p14 : Int) : Option (Int ⊕ (Unit ⊕ Int)) :=
  bif decide (p14 < p1) then ((gc ((((a0.getD p1.toNat default).ZW) != 0) && (((a0.getD p14.toNat default).ZW) != 0)) (M.Qs ((a0.getD p1.toNat default).Zy) ((a0.getD p1.toNat default).ZW))).bind fun r16 => (gc ((((a0.getD p1.toNat default).ZW) != 0) && (((a0.getD p14.toNat default).ZW) != 0)) (M.Qs ((a0.getD p14.toNat default).Zy) ((a0.getD p14.toNat default).ZW))).bind fun r17 => (gc ((((a0.getD p1.toNat default).ZW) != 0) && (((a0.getD p14.toNat default).ZW) != 0)) (M.Ql r16 r17)).bind fun r18 => gd [guardB (((a0.getD p1.toNat default).ZW) != 0) (decide (0 ≤ p14)), guardB (((a0.getD p1.toNat default).ZW) != 0) (decide (p14 < (a0.length : Int))), guardB ((((a0.getD p1.toNat default).ZW) != 0) && (((a0.getD p14.toNat default).ZW) != 0)) (decide (0 ≤ p14)), guardB ((((a0.getD p1.toNat default).ZW) != 0) && (((a0.getD p14.toNat default).ZW) != 0)) (decide (p14 < (a0.length : Int))), guardB ((((a0.getD p1.toNat default).ZW) != 0) && (((a0.getD p14.toNat default).ZW) != 0)) (decide (0 ≤ p14)), guardB ((((a0.getD p1.toNat default).ZW) != 0) && (((a0.getD p14.toNat default).ZW) != 0)) (decide (p14 < (a0.length : Int)))] (bif ((((a0.getD p1.toNat default).ZW) != 0) && (((a0.getD p14.toNat default).ZW) != 0)) && r18 then (some (.inr (.inr 6))) else (some (.inl (wr .i64 (p14 + 1)))))) else (some (.inr (.inl ())))
noncomputable def M.Yp (a0 : List Zl) (p1 : Int) : Option (Int ⊕ (Unit ⊕ Int)) :=
  bif decide (p1 < (a0.length : Int)) then (gd [decide (0 ≤ p1), decide (p1 < (a0.length : Int))] ((M.QW ((a0.getD p1.toNat default).Xj)).bind fun r3 => bif !r3 then (some (.inr (.inr 3))) else ((loopM (M.YH a0 p1) 0).bind fun y6 => Sum.elim (fun _ => (M.ZX ((a0.getD p1.toNat default).ZW) 0 32).bind fun r9 => (gc (!(!r9)) (M.ZX ((a0.getD p1.toNat default).XD) 0 4094)).bind fun r10 => (gc (!((!r9) || (!r10))) (M.ZX ((a0.getD p1.toNat default).RJ) 0 2)).bind fun r11 => bif ((!r9) || (!r10)) || (!r11) then (some (.inr (.inr 1))) else (bif ((((a0.getD p1.toNat default).ZW) == 0) && (((((((((a0.getD p1.toNat default).Zy) != 0) || (((a0.getD p1.toNat default).XD) != 0)) || (((a0.getD p1.toNat default).RJ) != 0)) || ((a0.getD p1.toNat default).Yi)) || ((a0.getD p1.toNat default).Yn)) || (!strEq ((a0.getD p1.toNat default).VS) (⟨#[]⟩ : ByteArray))) || (!strEq ((a0.getD p1.toNat default).Y7) (⟨#[]⟩ : ByteArray)))) || ((((a0.getD p1.toNat default).ZW) != 0) && (((a0.getD p1.toNat default).Zy) == 0)) then (some (.inr (.inr 1))) else ((gc ((a0.getD p1.toNat default).Yi) (M.ZX ((a0.getD p1.toNat default).V8) 0 255)).bind fun r12 => (gc (((a0.getD p1.toNat default).Yi) && !(!r12)) (M.ZX ((a0.getD p1.toNat default).ZbZ) 1 65535)).bind fun r13 => bif (((a0.getD p1.toNat default).Yi) && ((!r12) || (!r13))) || ((!((a0.getD p1.toNat default).Yi)) && ((((a0.getD p1.toNat default).V8) != 0) || (((a0.getD p1.toNat default).ZbZ) != 0))) then (some (.inr (.inr 1))) else ((loopM (M.Yo a0 p1) 0).bind fun y19 => Sum.elim (fun _ => some (.inl (wr .i64 (p1 + 1)))) (fun y21 => some (.inr (.inr y21))) y19)))) (fun y8 => some (.inr (.inr y8))) y6))) else (some (.inr (.inl ())))
noncomputable def M.Yd (a0 : List Zl) : Option Int :=
  bif decide ((a0.length : Int) > 8) then (some 7) else ((loopM (M.Yp a0) 0).bind fun y22 => Sum.elim (fun _ => some 0) (fun y24 => some y24) y22)
noncomputable def M.Y8 (a0 : ZZ) : Option Bool :=
  (gc ((decide (a0.ZW ≥ 0)) && (decide (a0.ZW ≤ 32))) (M.Jg a0.ZW)).bind fun r1 => some (((decide (a0.ZW ≥ 0)) && (decide (a0.ZW ≤ 32))) && ((bitD .andNot .u32 a0.Zy r1) == 0))
noncomputable def M.YT (a0 : Un) : Option Bool :=
  (M.Y8 a0.Zo).bind fun r1 => some (((r1 && (decide (a0.Zo.ZW ≤ a0.Ziz))) && (decide (a0.Ziz ≤ a0.ZiA))) && (decide (a0.ZiA ≤ 32)))
noncomputable def M.Qc (a0 : List Z2) (p1 : Int) (p4 : Int) : Option (Int ⊕ (Unit ⊕ Int)) :=
  bif decide (p4 < p1) then (gd [decide (0 ≤ p4), decide (p4 < (a0.length : Int)), decide (0 ≤ p1), decide (p1 < (a0.length : Int))] (bif strEq ((a0.getD p4.toNat default).Xj) ((a0.getD p1.toNat default).Xj) then (some (.inr (.inr 4))) else (some (.inl (wr .i64 (p4 + 1)))))) else (some (.inr (.inl ())))
noncomputable def M.Qd (a0 : List Z2) (p1 : Int) (p9 : Int) : Option (Int ⊕ (Unit ⊕ Int)) :=
  gd [decide (0 ≤ p1), decide (p1 < (a0.length : Int))] (bif decide (p9 < (((a0.getD p1.toNat default).YG).length : Int)) then ((M.YT (((a0.getD p1.toNat default).YG).getD p9.toNat default)).bind fun r11 => gd [decide (0 ≤ p1), decide (p1 < (a0.length : Int)), decide (0 ≤ p9), decide (p9 < (((a0.getD p1.toNat default).YG).length : Int))] (bif !r11 then (some (.inr (.inr 1))) else (some (.inl (wr .i64 (p9 + 1)))))) else (some (.inr (.inl ()))))
noncomputable def M.Qe (a0 : List Z2) (p1 : Int) : Option (Int ⊕ (Unit ⊕ Int)) :=
  bif decide (p1 < (a0.length : Int)) then ((M.QW ((a0.getD p1.toNat default).Xj)).bind fun r3 => gd [decide (0 ≤ p1), decide (p1 < (a0.length : Int))] (bif !r3 then (some (.inr (.inr 3))) else ((loopM (M.Qc a0 p1) 0).bind fun y6 => Sum.elim (fun _ => gd [decide (0 ≤ p1), decide (p1 < (a0.length : Int))] (bif (((a0.getD p1.toNat default).YG).length : Int) == 0 then (some (.inr (.inr 1))) else (gd [decide (0 ≤ p1), decide (p1 < (a0.length : Int))] (bif decide ((((a0.getD p1.toNat default).YG).length : Int) > 16) then (some (.inr (.inr 7))) else ((loopM (M.Qd a0 p1) 0).bind fun y12 => Sum.elim (fun _ => some (.inl (wr .i64 (p1 + 1)))) (fun y14 => some (.inr (.inr y14))) y12))))) (fun y8 => some (.inr (.inr y8))) y6))) else (some (.inr (.inl ())))
noncomputable def M.Qj (a0 : List Z2) : Option Int :=
  bif decide ((a0.length : Int) > 8) then (some 7) else ((loopM (M.Qe a0) 0).bind fun y15 => Sum.elim (fun _ => some 0) (fun y17 => some y17) y15)
noncomputable def M.Qt (a0 : Zf) (a1 : ByteArray) (p1 : Int) : Option (Int ⊕ (Unit ⊕ Int)) :=
  bif decide (p1 < (a0.Yv.length : Int)) then (gd [decide (0 ≤ p1), decide (p1 < (a0.Yv.length : Int))] (bif strEq ((a0.Yv.getD p1.toNat default).Xj) a1 then (some (.inr (.inr p1))) else (some (.inl (wr .i64 (p1 + 1)))))) else (some (.inr (.inl ())))
noncomputable def M.YO (a0 : Zf) (a1 : ByteArray) : Option Int :=
  (loopM (M.Qt a0 a1) 0).bind fun y3 => Sum.elim (fun _ => some (-1)) (fun y5 => some y5) y3
noncomputable def M.QL (a0 : Zf) (p1 : Int) (p4 : Int) : Option (Int ⊕ (Unit ⊕ Int)) :=
  bif decide (p4 < p1) then (gd [decide (0 ≤ p4), decide (p4 < (a0.XE.length : Int)), decide (0 ≤ p1), decide (p1 < (a0.XE.length : Int))] (bif strEq ((a0.XE.getD p4.toNat default).Xj) ((a0.XE.getD p1.toNat default).Xj) then (some (.inr (.inr 4))) else (some (.inl (wr .i64 (p4 + 1)))))) else (some (.inr (.inl ())))
noncomputable def M.QM (a0 : Zf) (p1 : Int) (p9 : Int) : Option (Int ⊕ (Unit ⊕ Int)) :=
  gd [decide (0 ≤ p1), decide (p1 < (a0.XE.length : Int))] (bif decide (p9 < (((a0.XE.getD p1.toNat default).XZ).length : Int)) then (gd [decide (0 ≤ p1), decide (p1 < (a0.XE.length : Int)), decide (0 ≤ p9), decide (p9 < (((a0.XE.getD p1.toNat default).XZ).length : Int))] ((gc (!strEq ((((a0.XE.getD p1.toNat default).XZ).getD p9.toNat default).J1) (⟨#[]⟩ : ByteArray)) (M.YO a0 ((((a0.XE.getD p1.toNat default).XZ).getD p9.toNat default).J1))).bind fun r11 => bif (!strEq ((((a0.XE.getD p1.toNat default).XZ).getD p9.toNat default).J1) (⟨#[]⟩ : ByteArray)) && (decide (r11 < 0)) then (some (.inr (.inr 5))) else ((M.ZX ((((a0.XE.getD p1.toNat default).XZ).getD p9.toNat default).KN) (-1) 65535).bind fun r12 => (gc (!(!r12)) (M.ZX ((((a0.XE.getD p1.toNat default).XZ).getD p9.toNat default).Zb1) (-1) 65535)).bind fun r13 => (gc (!((!r12) || (!r13))) (M.ZX ((((a0.XE.getD p1.toNat default).XZ).getD p9.toNat default).GJ) (-1) 16777215)).bind fun r14 => (gc (!(((!r12) || (!r13)) || (!r14))) (M.ZX ((((a0.XE.getD p1.toNat default).XZ).getD p9.toNat default).RK) (-1) 1000000)).bind fun r15 => (gc (!((((!r12) || (!r13)) || (!r14)) || (!r15))) (M.ZX ((((a0.XE.getD p1.toNat default).XZ).getD p9.toNat default).RL) 0 8)).bind fun r16 => bif ((((!r12) || (!r13)) || (!r14)) || (!r15)) || (!r16) then (some (.inr (.inr 1))) else (some (.inl (wr .i64 (p9 + 1))))))) else (some (.inr (.inl ()))))
noncomputable def M.QN (a0 : Zf) (p1 : Int) : Option (Int ⊕ (Unit ⊕ Int)) :=
  bif decide (p1 < (a0.XE.length : Int)) then ((M.QW ((a0.XE.getD p1.toNat default).Xj)).bind fun r3 => gd [decide (0 ≤ p1), decide (p1 < (a0.XE.length : Int))] (bif !r3 then (some (.inr (.inr 3))) else ((loopM (M.QL a0 p1) 0).bind fun y6 => Sum.elim (fun _ => gd [decide (0 ≤ p1), decide (p1 < (a0.XE.length : Int))] (bif (((a0.XE.getD p1.toNat default).XZ).length : Int) == 0 then (some (.inr (.inr 1))) else (gd [decide (0 ≤ p1), decide (p1 < (a0.XE.length : Int))] (bif decide ((((a0.XE.getD p1.toNat default).XZ).length : Int) > 8) then (some (.inr (.inr 7))) else ((loopM (M.QM a0 p1) 0).bind fun y17 => Sum.elim (fun _ => some (.inl (wr .i64 (p1 + 1)))) (fun y19 => some (.inr (.inr y19))) y17))))) (fun y8 => some (.inr (.inr y8))) y6))) else (some (.inr (.inl ())))
noncomputable def M.QZ (a0 : Zf) : Option Int :=
  bif decide ((a0.XE.length : Int) > 8) then (some 7) else ((loopM (M.QN a0) 0).bind fun y20 => Sum.elim (fun _ => some 0) (fun y22 => some y22) y20)
noncomputable def M.V9 (a0 : VK) : Option Bool :=
  some (((decide (0 ≤ a0.Kt)) && (decide (a0.Kt ≤ a0.Re))) && (decide (a0.Re ≤ 65535)))
noncomputable def M.Uo (a0 : VK) : Option Bool :=
  some ((a0.Kt == 0) && ((a0.Re == 65535) && true))
noncomputable def M.J6 (a0 : Zey) : Option Bool :=
  (M.ZX a0.YQ (-1) 255).bind fun r1 => (gc (!(((!r1) || ((bitD .and .u32 a0.Zbe.Zy a0.Zbe.Gw) != 0)) || ((bitD .and .u32 a0.Zbf.Zy a0.Zbf.Gw) != 0))) (M.V9 a0.Uv)).bind fun r2 => (gc (!((((!r1) || ((bitD .and .u32 a0.Zbe.Zy a0.Zbe.Gw) != 0)) || ((bitD .and .u32 a0.Zbf.Zy a0.Zbf.Gw) != 0)) || (!r2))) (M.V9 a0.Uw)).bind fun r3 => bif ((((!r1) || ((bitD .and .u32 a0.Zbe.Zy a0.Zbe.Gw) != 0)) || ((bitD .and .u32 a0.Zbf.Zy a0.Zbf.Gw) != 0)) || (!r2)) || (!r3) then (some false) else ((gc (!((a0.YQ == 6) || (a0.YQ == 17))) (M.Uo a0.Uv)).bind fun r4 => (gc ((!((a0.YQ == 6) || (a0.YQ == 17))) && r4) (M.Uo a0.Uw)).bind fun r5 => some (((a0.YQ == 6) || (a0.YQ == 17)) || (r4 && r5)))
noncomputable def M.Qf (a0 : List Ud) (p1 : Int) (p4 : Int) : Option (Int ⊕ (Unit ⊕ Int)) :=
  bif decide (p4 < p1) then (gd [decide (0 ≤ p4), decide (p4 < (a0.length : Int)), decide (0 ≤ p1), decide (p1 < (a0.length : Int))] (bif strEq ((a0.getD p4.toNat default).Xj) ((a0.getD p1.toNat default).Xj) then (some (.inr (.inr 4))) else (some (.inl (wr .i64 (p4 + 1)))))) else (some (.inr (.inl ())))
noncomputable def M.Qg (a0 : List Ud) (p1 : Int) (p9 : Int) : Option (Int ⊕ (Unit ⊕ Int)) :=
  gd [decide (0 ≤ p1), decide (p1 < (a0.length : Int))] (bif decide (p9 < (((a0.getD p1.toNat default).YG).length : Int)) then ((M.J6 (((a0.getD p1.toNat default).YG).getD p9.toNat default)).bind fun r11 => gd [decide (0 ≤ p1), decide (p1 < (a0.length : Int)), decide (0 ≤ p9), decide (p9 < (((a0.getD p1.toNat default).YG).length : Int))] (bif !r11 then (some (.inr (.inr 1))) else (some (.inl (wr .i64 (p9 + 1)))))) else (some (.inr (.inl ()))))
noncomputable def M.Qh (a0 : List Ud) (p1 : Int) : Option (Int ⊕ (Unit ⊕ Int)) :=
  bif decide (p1 < (a0.length : Int)) then ((M.QW ((a0.getD p1.toNat default).Xj)).bind fun r3 => gd [decide (0 ≤ p1), decide (p1 < (a0.length : Int))] (bif !r3 then (some (.inr (.inr 3))) else ((loopM (M.Qf a0 p1) 0).bind fun y6 => Sum.elim (fun _ => gd [decide (0 ≤ p1), decide (p1 < (a0.length : Int))] (bif (((a0.getD p1.toNat default).YG).length : Int) == 0 then (some (.inr (.inr 1))) else (gd [decide (0 ≤ p1), decide (p1 < (a0.length : Int))] (bif decide ((((a0.getD p1.toNat default).YG).length : Int) > 16) then (some (.inr (.inr 7))) else ((loopM (M.Qg a0 p1) 0).bind fun y12 => Sum.elim (fun _ => some (.inl (wr .i64 (p1 + 1)))) (fun y14 => some (.inr (.inr y14))) y12))))) (fun y8 => some (.inr (.inr y8))) y6))) else (some (.inr (.inl ())))
noncomputable def M.Qk (a0 : List Ud) : Option Int :=
  bif decide ((a0.length : Int) > 8) then (some 7) else ((loopM (M.Qh a0) 0).bind fun y15 => Sum.elim (fun _ => some 0) (fun y17 => some y17) y15)
noncomputable def M.Wp (a0 : Zf) (a1 : ByteArray) (p1 : Int) : Option (Int ⊕ (Unit ⊕ Int)) :=
  bif decide (p1 < (a0.YD.length : Int)) then (gd [decide (0 ≤ p1), decide (p1 < (a0.YD.length : Int))] (bif strEq ((a0.YD.getD p1.toNat default).Xj) a1 then (some (.inr (.inr p1))) else (some (.inl (wr .i64 (p1 + 1)))))) else (some (.inr (.inl ())))
noncomputable def M.WI (a0 : Zf) (a1 : ByteArray) : Option Int :=
  (loopM (M.Wp a0 a1) 0).bind fun y3 => Sum.elim (fun _ => some (-1)) (fun y5 => some y5) y3
noncomputable def M.XV (a0 : Zf) (p1 : Int) (p3 : Bool) : Option (Int ⊕ (Unit ⊕ Int)) :=
  bif !p3 then (some (.inr (.inr 1))) else ((gc (((a0.Xa.getD p1.toNat default).WC) == 2) (M.WI a0 ((a0.Xa.getD p1.toNat default).J1))).bind fun r4 => bif (((a0.Xa.getD p1.toNat default).WC) == 2) && (decide (r4 < 0)) then (some (.inr (.inr 5))) else (some (.inl (wr .i64 (p1 + 1)))))
noncomputable def M.YU (a0 : Zf) (p1 : Int) : Option (Int ⊕ (Unit ⊕ Int)) :=
  bif decide (p1 < (a0.Xa.length : Int)) then (gd [decide (0 ≤ p1), decide (p1 < (a0.Xa.length : Int))] (bif ((a0.Xa.getD p1.toNat default).WC) == 1 then (M.XV a0 p1 (((((a0.Xa.getD p1.toNat default).Jy) != 0) && (((a0.Xa.getD p1.toNat default).Qz) != 0)) && ((((a0.Xa.getD p1.toNat default).WC) == ((a0.Xa.getD p1.toNat default).WC)) && ((((a0.Xa.getD p1.toNat default).Jy) == ((a0.Xa.getD p1.toNat default).Jy)) && ((((a0.Xa.getD p1.toNat default).Qz) == ((a0.Xa.getD p1.toNat default).Qz)) && ((((a0.Xa.getD p1.toNat default).YQ) == 0) && ((((a0.Xa.getD p1.toNat default).JS) == 0) && ((((a0.Xa.getD p1.toNat default).Jf) == 0) && (strEq ((a0.Xa.getD p1.toNat default).J1) (⟨#[]⟩ : ByteArray) && ((((a0.Xa.getD p1.toNat default).Kt) == 0) && ((((a0.Xa.getD p1.toNat default).Re) == 0) && true))))))))))) else (bif ((a0.Xa.getD p1.toNat default).WC) == 2 then (M.XV a0 p1 ((((((a0.Xa.getD p1.toNat default).Kt) != 0) && (decide (((a0.Xa.getD p1.toNat default).Kt) ≤ ((a0.Xa.getD p1.toNat default).Re)))) && (decide ((wr .u32 (((a0.Xa.getD p1.toNat default).Re) - ((a0.Xa.getD p1.toNat default).Kt))) < 8))) && ((((a0.Xa.getD p1.toNat default).WC) == ((a0.Xa.getD p1.toNat default).WC)) && ((((a0.Xa.getD p1.toNat default).Jy) == 0) && ((((a0.Xa.getD p1.toNat default).Qz) == 0) && ((((a0.Xa.getD p1.toNat default).YQ) == 0) && ((((a0.Xa.getD p1.toNat default).JS) == 0) && ((((a0.Xa.getD p1.toNat default).Jf) == 0) && (strEq ((a0.Xa.getD p1.toNat default).J1) ((a0.Xa.getD p1.toNat default).J1) && ((((a0.Xa.getD p1.toNat default).Kt) == ((a0.Xa.getD p1.toNat default).Kt)) && ((((a0.Xa.getD p1.toNat default).Re) == ((a0.Xa.getD p1.toNat default).Re)) && true))))))))))) else (bif ((a0.Xa.getD p1.toNat default).WC) == 3 then ((gc (((((a0.Xa.getD p1.toNat default).Jy) != 0) && (((a0.Xa.getD p1.toNat default).Qz) != 0)) && ((((a0.Xa.getD p1.toNat default).YQ) == 6) || (((a0.Xa.getD p1.toNat default).YQ) == 17))) (M.ZX ((a0.Xa.getD p1.toNat default).JS) 0 65535)).bind fun r5 => (gc ((((((a0.Xa.getD p1.toNat default).Jy) != 0) && (((a0.Xa.getD p1.toNat default).Qz) != 0)) && ((((a0.Xa.getD p1.toNat default).YQ) == 6) || (((a0.Xa.getD p1.toNat default).YQ) == 17))) && r5) (M.ZX ((a0.Xa.getD p1.toNat default).Jf) 0 65535)).bind fun r6 => M.XV a0 p1 ((((((((((a0.Xa.getD p1.toNat default).Jy) != 0) && (((a0.Xa.getD p1.toNat default).Qz) != 0)) && ((((a0.Xa.getD p1.toNat default).YQ) == 6) || (((a0.Xa.getD p1.toNat default).YQ) == 17))) && r5) && r6) && (strEq ((a0.Xa.getD p1.toNat default).J1) (⟨#[]⟩ : ByteArray))) && (((a0.Xa.getD p1.toNat default).Kt) == 0)) && (((a0.Xa.getD p1.toNat default).Re) == 0))) else (M.XV a0 p1 false))))) else (some (.inr (.inl ())))
noncomputable def M.YV (a0 : Zf) : Option Int :=
  bif decide ((a0.Xa.length : Int) > 8) then (some 7) else ((loopM (M.YU a0) 0).bind fun y7 => Sum.elim (fun _ => some 0) (fun y9 => some y9) y7)
noncomputable def M.Jz (a0 : Zf) (p1 : Int) : Option (Int ⊕ (Unit ⊕ Int)) :=
  bif decide (p1 < (a0.Zc.length : Int)) then (gd [decide (0 ≤ p1), decide (p1 < (a0.Zc.length : Int))] ((gc (!strEq ((a0.Zc.getD p1.toNat default).VS) (⟨#[]⟩ : ByteArray)) (M.WI a0 ((a0.Zc.getD p1.toNat default).VS))).bind fun r3 => (gc ((!((!strEq ((a0.Zc.getD p1.toNat default).VS) (⟨#[]⟩ : ByteArray)) && (decide (r3 < 0)))) && (!strEq ((a0.Zc.getD p1.toNat default).Y7) (⟨#[]⟩ : ByteArray))) (M.WI a0 ((a0.Zc.getD p1.toNat default).Y7))).bind fun r4 => bif ((!strEq ((a0.Zc.getD p1.toNat default).VS) (⟨#[]⟩ : ByteArray)) && (decide (r3 < 0))) || ((!strEq ((a0.Zc.getD p1.toNat default).Y7) (⟨#[]⟩ : ByteArray)) && (decide (r4 < 0))) then (some (.inr (.inr 5))) else (some (.inl (wr .i64 (p1 + 1)))))) else (some (.inr (.inl ())))
noncomputable def M.J7 (a0 : Zf) : Option Int :=
  (loopM (M.Jz a0) 0).bind fun y5 => Sum.elim (fun _ => some 0) (fun y7 => some y7) y5
noncomputable def M.JA (a0 : Zf) (a1 : Int) (p1 : Int) : Option (Int ⊕ (Unit ⊕ Int)) :=
  bif decide (p1 < (a0.Zc.length : Int)) then (gd [decide (0 ≤ p1), decide (p1 < (a0.Zc.length : Int)), guardB (((a0.Zc.getD p1.toNat default).ZW) != 0) (decide (0 ≤ p1)), guardB (((a0.Zc.getD p1.toNat default).ZW) != 0) (decide (p1 < (a0.Zc.length : Int)))] (bif (((a0.Zc.getD p1.toNat default).ZW) != 0) && (((a0.Zc.getD p1.toNat default).Zy) == a1) then (some (.inr (.inr p1))) else (some (.inl (wr .i64 (p1 + 1)))))) else (some (.inr (.inl ())))
noncomputable def M.JB (a0 : Zf) (a1 : Int) : Option Int :=
  (loopM (M.JA a0 a1) 0).bind fun y3 => Sum.elim (fun _ => some (-1)) (fun y5 => some y5) y3
noncomputable def M.Qm (a0 : Zf) (a1 : ByteArray) (p1 : Int) : Option (Int ⊕ (Unit ⊕ Int)) :=
  bif decide (p1 < (a0.Zc.length : Int)) then (gd [decide (0 ≤ p1), decide (p1 < (a0.Zc.length : Int))] (bif strEq ((a0.Zc.getD p1.toNat default).Xj) a1 then (some (.inr (.inr p1))) else (some (.inl (wr .i64 (p1 + 1)))))) else (some (.inr (.inl ())))
noncomputable def M.Q0 (a0 : Zf) (a1 : ByteArray) : Option Int :=
  (loopM (M.Qm a0 a1) 0).bind fun y3 => Sum.elim (fun _ => some (-1)) (fun y5 => some y5) y3
noncomputable def M.JC (a0 : Zf) (p1 : Int) (p11 : Int) : Option (Int ⊕ (Unit ⊕ Int)) :=
  bif decide (p11 < p1) then (gd [decide (0 ≤ p11), decide (p11 < (a0.Zq.length : Int)), guardB (((((a0.Zq.getD p11.toNat default).Zo).Zy) == (((a0.Zq.getD p1.toNat default).Zo).Zy)) && (((((a0.Zq.getD p11.toNat default).Zo).ZW) == (((a0.Zq.getD p1.toNat default).Zo).ZW)) && true)) (decide (0 ≤ p11)), guardB (((((a0.Zq.getD p11.toNat default).Zo).Zy) == (((a0.Zq.getD p1.toNat default).Zo).Zy)) && (((((a0.Zq.getD p11.toNat default).Zo).ZW) == (((a0.Zq.getD p1.toNat default).Zo).ZW)) && true)) (decide (p11 < (a0.Zq.length : Int)))] (bif (((((a0.Zq.getD p11.toNat default).Zo).Zy) == (((a0.Zq.getD p1.toNat default).Zo).Zy)) && (((((a0.Zq.getD p11.toNat default).Zo).ZW) == (((a0.Zq.getD p1.toNat default).Zo).ZW)) && true)) && (((a0.Zq.getD p11.toNat default).Xr) == ((a0.Zq.getD p1.toNat default).Xr)) then (some (.inr (.inr 6))) else (some (.inl (wr .i64 (p11 + 1)))))) else (some (.inr (.inl ())))
noncomputable def M.QA (a0 : Zf) (p1 : Int) (_p10 : Unit) : Option (Int ⊕ (Unit ⊕ Int)) :=
  (loopM (M.JC a0 p1) 0).bind fun y13 => Sum.elim (fun _ => some (.inl (wr .i64 (p1 + 1)))) (fun y15 => some (.inr (.inr y15))) y13
noncomputable def M.QB (a0 : Zf) (p1 : Int) (p5 : Int) : Option (Int ⊕ (Unit ⊕ Int)) :=
  (M.Y8 ((a0.Zq.getD p1.toNat default).Zo)).bind fun r6 => (gc ((!((!r6) || (p5 != 1))) && (((a0.Zq.getD p1.toNat default).U0) != 0)) (M.JB a0 ((a0.Zq.getD p1.toNat default).U0))).bind fun r7 => (gc (!(((!r6) || (p5 != 1)) || ((((a0.Zq.getD p1.toNat default).U0) != 0) && (decide (r7 ≥ 0))))) (M.ZX ((a0.Zq.getD p1.toNat default).Xr) 1 255)).bind fun r8 => (gc (!((((!r6) || (p5 != 1)) || ((((a0.Zq.getD p1.toNat default).U0) != 0) && (decide (r7 ≥ 0)))) || (!r8))) (M.ZX ((a0.Zq.getD p1.toNat default).KN) 0 65535)).bind fun r9 => bif ((((!r6) || (p5 != 1)) || ((((a0.Zq.getD p1.toNat default).U0) != 0) && (decide (r7 ≥ 0)))) || (!r8)) || (!r9) then (some (.inr (.inr 1))) else (bif !strEq ((a0.Zq.getD p1.toNat default).J2) (⟨#[]⟩ : ByteArray) then ((M.Q0 a0 ((a0.Zq.getD p1.toNat default).J2)).bind fun r16 => bif decide (r16 < 0) then (some (.inr (.inr 5))) else (gd [decide (0 ≤ r16), decide (r16 < (a0.Zc.length : Int))] (bif ((a0.Zc.getD r16.toNat default).ZW) == 0 then (some (.inr (.inr 1))) else (M.QA a0 p1 ())))) else (M.QA a0 p1 ()))
noncomputable def M.QC (a0 : Zf) (p1 : Int) (p4 : Int) : Option (Int ⊕ (Unit ⊕ Int)) :=
  bif (a0.Zq.getD p1.toNat default).Zez then (M.QB a0 p1 (wr .i64 (p4 + 1))) else (M.QB a0 p1 p4)
noncomputable def M.QD (a0 : Zf) (p1 : Int) (p3 : Int) : Option (Int ⊕ (Unit ⊕ Int)) :=
  bif !strEq ((a0.Zq.getD p1.toNat default).J2) (⟨#[]⟩ : ByteArray) then (M.QC a0 p1 (wr .i64 (p3 + 1))) else (M.QC a0 p1 p3)
noncomputable def M.JD (a0 : Zf) (p1 : Int) : Option (Int ⊕ (Unit ⊕ Int)) :=
  bif decide (p1 < (a0.Zq.length : Int)) then (gd [decide (0 ≤ p1), decide (p1 < (a0.Zq.length : Int))] (bif ((a0.Zq.getD p1.toNat default).U0) != 0 then (M.QD a0 p1 1) else (M.QD a0 p1 0))) else (some (.inr (.inl ())))
noncomputable def M.J8 (a0 : Zf) : Option Int :=
  bif decide ((a0.Zq.length : Int) > 16) then (some 7) else ((loopM (M.JD a0) 0).bind fun y17 => Sum.elim (fun _ => some 0) (fun y19 => some y19) y17)
noncomputable def M.Jh (a0 : Zf) (a1 : ByteArray) (p1 : Int) : Option (Int ⊕ (Unit ⊕ Int)) :=
  bif decide (p1 < (a0.XE.length : Int)) then (gd [decide (0 ≤ p1), decide (p1 < (a0.XE.length : Int))] (bif strEq ((a0.XE.getD p1.toNat default).Xj) a1 then (some (.inr (.inr p1))) else (some (.inl (wr .i64 (p1 + 1)))))) else (some (.inr (.inl ())))
noncomputable def M.QG (a0 : Zf) (a1 : ByteArray) : Option Int :=
  (loopM (M.Jh a0 a1) 0).bind fun y3 => Sum.elim (fun _ => some (-1)) (fun y5 => some y5) y3
noncomputable def M.Yk (a1 : List YJ) (p1 : Int) (p7 : Int) : Option (Int ⊕ (Unit ⊕ Int)) :=
  bif decide (p7 < p1) then (gd [decide (0 ≤ p7), decide (p7 < (a1.length : Int))] (bif ((a1.getD p7.toNat default).GK) == ((a1.getD p1.toNat default).GK) then (some (.inr (.inr 4))) else (some (.inl (wr .i64 (p7 + 1)))))) else (some (.inr (.inl ())))
noncomputable def M.Yl (a0 : Zf) (a1 : List YJ) (a2 : Int) (a3 : Int) (a4 : Int) (p1 : Int) : Option (Int ⊕ (Unit ⊕ Int)) :=
  bif decide (p1 < (a1.length : Int)) then (gd [decide (0 ≤ p1), decide (p1 < (a1.length : Int))] ((M.ZX ((a1.getD p1.toNat default).GK) 1 5).bind fun r3 => (gc (!((!r3) || (((a1.getD p1.toNat default).GK) == a2))) (M.ZX ((a1.getD p1.toNat default).Zb2) a3 a4)).bind fun r4 => (gc (!(((!r3) || (((a1.getD p1.toNat default).GK) == a2)) || (!r4))) (M.ZX ((a1.getD p1.toNat default).KN) 0 65535)).bind fun r5 => bif (((!r3) || (((a1.getD p1.toNat default).GK) == a2)) || (!r4)) || (!r5) then (some (.inr (.inr 1))) else (bif (((a2 == 3) && (((a1.getD p1.toNat default).Zdg) != 1)) && (((a1.getD p1.toNat default).Zdg) != 2)) || ((a2 != 3) && (((a1.getD p1.toNat default).Zdg) != 0)) then (some (.inr (.inr 1))) else ((gc (!strEq ((a1.getD p1.toNat default).ZcM) (⟨#[]⟩ : ByteArray)) (M.QG a0 ((a1.getD p1.toNat default).ZcM))).bind fun r6 => bif (!strEq ((a1.getD p1.toNat default).ZcM) (⟨#[]⟩ : ByteArray)) && (decide (r6 < 0)) then (some (.inr (.inr 5))) else ((loopM (M.Yk a1 p1) 0).bind fun y9 => Sum.elim (fun _ => some (.inl (wr .i64 (p1 + 1)))) (fun y11 => some (.inr (.inr y11))) y9))))) else (some (.inr (.inl ())))
noncomputable def M.X4 (a0 : Zf) (a1 : List YJ) (a2 : Int) (a3 : Int) (a4 : Int) : Option Int :=
  bif decide ((a1.length : Int) > 4) then (some 7) else ((loopM (M.Yl a0 a1 a2 a3 a4) 0).bind fun y12 => Sum.elim (fun _ => some 0) (fun y14 => some y14) y12)
noncomputable def M.QO (a0 : Zf) (p2 : Int) (p6 : Int) : Option (Int ⊕ (Unit ⊕ Int)) :=
  bif decide (p6 < p2) then ((gc (((a0.Yi.Z4.getD p6.toNat default).V8) == ((a0.Yi.Z4.getD p2.toNat default).V8)) (M.Ql ((a0.Yi.Z4.getD p6.toNat default).Zo) ((a0.Yi.Z4.getD p2.toNat default).Zo))).bind fun r8 => gd [decide (0 ≤ p6), decide (p6 < (a0.Yi.Z4.length : Int)), decide (0 ≤ p2), decide (p2 < (a0.Yi.Z4.length : Int)), guardB (((a0.Yi.Z4.getD p6.toNat default).V8) == ((a0.Yi.Z4.getD p2.toNat default).V8)) (decide (0 ≤ p6)), guardB (((a0.Yi.Z4.getD p6.toNat default).V8) == ((a0.Yi.Z4.getD p2.toNat default).V8)) (decide (p6 < (a0.Yi.Z4.length : Int))), guardB (((a0.Yi.Z4.getD p6.toNat default).V8) == ((a0.Yi.Z4.getD p2.toNat default).V8)) (decide (0 ≤ p2)), guardB (((a0.Yi.Z4.getD p6.toNat default).V8) == ((a0.Yi.Z4.getD p2.toNat default).V8)) (decide (p2 < (a0.Yi.Z4.length : Int)))] (bif (((a0.Yi.Z4.getD p6.toNat default).V8) == ((a0.Yi.Z4.getD p2.toNat default).V8)) && r8 then (some (.inr (.inr 6))) else (some (.inl (wr .i64 (p6 + 1)))))) else (some (.inr (.inl ())))
noncomputable def M.QP (a0 : Zf) (p2 : Int) : Option (Int ⊕ (Unit ⊕ Int)) :=
  bif decide (p2 < (a0.Yi.Z4.length : Int)) then ((M.ZX ((a0.Yi.Z4.getD p2.toNat default).V8) 0 255).bind fun r4 => (gc (!(!r4)) (M.Y8 ((a0.Yi.Z4.getD p2.toNat default).Zo))).bind fun r5 => gd [decide (0 ≤ p2), decide (p2 < (a0.Yi.Z4.length : Int)), guardB (!(!r4)) (decide (0 ≤ p2)), guardB (!(!r4)) (decide (p2 < (a0.Yi.Z4.length : Int)))] (bif (!r4) || (!r5) then (some (.inr (.inr 1))) else ((loopM (M.QO a0 p2) 0).bind fun y9 => Sum.elim (fun _ => some (.inl (wr .i64 (p2 + 1)))) (fun y11 => some (.inr (.inr y11))) y9))) else (some (.inr (.inl ())))
noncomputable def M.Q1 (a0 : Zf) : Option Int :=
  bif !a0.Yi.Vz then (bif ((a0.Yi.Xr != 0) || (decide ((a0.Yi.Z4.length : Int) > 0))) || (decide ((a0.Yi.Zs.length : Int) > 0)) then (some 1) else (some 0)) else ((M.ZX a0.Yi.Xr 1 255).bind fun r1 => bif !r1 then (some 1) else (bif decide ((a0.Yi.Z4.length : Int) > 4) then (some 7) else ((loopM (M.QP a0) 0).bind fun y12 => Sum.elim (fun _ => (M.X4 a0 a0.Yi.Zs 3 0 16777215).bind fun r15 => some r15) (fun y14 => some y14) y12)))
noncomputable def M.Js (a0 : Zf) : Option Int :=
  bif !a0.Yn.Vz then (bif (((a0.Yn.Xr != 0) || (!strEq a0.Yn.VS (⟨#[]⟩ : ByteArray))) || (!strEq a0.Yn.Y7 (⟨#[]⟩ : ByteArray))) || (decide ((a0.Yn.Zs.length : Int) > 0)) then (some 1) else (some 0)) else ((M.ZX a0.Yn.Xr 1 255).bind fun r1 => bif !r1 then (some 1) else ((gc (!strEq a0.Yn.VS (⟨#[]⟩ : ByteArray)) (M.YO a0 a0.Yn.VS)).bind fun r2 => (gc ((!((!strEq a0.Yn.VS (⟨#[]⟩ : ByteArray)) && (decide (r2 < 0)))) && (!strEq a0.Yn.Y7 (⟨#[]⟩ : ByteArray))) (M.YO a0 a0.Yn.Y7)).bind fun r3 => bif ((!strEq a0.Yn.VS (⟨#[]⟩ : ByteArray)) && (decide (r2 < 0))) || ((!strEq a0.Yn.Y7 (⟨#[]⟩ : ByteArray)) && (decide (r3 < 0))) then (some 5) else ((M.X4 a0 a0.Yn.Zs 4 1 15).bind fun r4 => some r4)))
noncomputable def M.QQ (a0 : Zf) (p1 : Int) (p6 : Int) : Option (Int ⊕ (Unit ⊕ Int)) :=
  bif decide (p6 < p1) then (gd [decide (0 ≤ p6), decide (p6 < (a0.Xs.Zm.length : Int)), decide (0 ≤ p1), decide (p1 < (a0.Xs.Zm.length : Int))] (bif ((a0.Xs.Zm.getD p6.toNat default).Zy) == ((a0.Xs.Zm.getD p1.toNat default).Zy) then (some (.inr (.inr 4))) else (some (.inl (wr .i64 (p6 + 1)))))) else (some (.inr (.inl ())))
noncomputable def M.QR (a0 : Zf) (p1 : Int) : Option (Int ⊕ (Unit ⊕ Int)) :=
  bif decide (p1 < (a0.Xs.Zm.length : Int)) then ((gc (!(((a0.Xs.Zm.getD p1.toNat default).Zy) == 0)) (M.ZX ((a0.Xs.Zm.getD p1.toNat default).GA) 1 65535)).bind fun r3 => gd [decide (0 ≤ p1), decide (p1 < (a0.Xs.Zm.length : Int)), guardB (!(((a0.Xs.Zm.getD p1.toNat default).Zy) == 0)) (decide (0 ≤ p1)), guardB (!(((a0.Xs.Zm.getD p1.toNat default).Zy) == 0)) (decide (p1 < (a0.Xs.Zm.length : Int)))] (bif (((a0.Xs.Zm.getD p1.toNat default).Zy) == 0) || (!r3) then (some (.inr (.inr 1))) else ((gc (!strEq ((a0.Xs.Zm.getD p1.toNat default).VS) (⟨#[]⟩ : ByteArray)) (M.QG a0 ((a0.Xs.Zm.getD p1.toNat default).VS))).bind fun r4 => (gc ((!((!strEq ((a0.Xs.Zm.getD p1.toNat default).VS) (⟨#[]⟩ : ByteArray)) && (decide (r4 < 0)))) && (!strEq ((a0.Xs.Zm.getD p1.toNat default).Y7) (⟨#[]⟩ : ByteArray))) (M.QG a0 ((a0.Xs.Zm.getD p1.toNat default).Y7))).bind fun r5 => gd [decide (0 ≤ p1), decide (p1 < (a0.Xs.Zm.length : Int)), guardB (!strEq ((a0.Xs.Zm.getD p1.toNat default).VS) (⟨#[]⟩ : ByteArray)) (decide (0 ≤ p1)), guardB (!strEq ((a0.Xs.Zm.getD p1.toNat default).VS) (⟨#[]⟩ : ByteArray)) (decide (p1 < (a0.Xs.Zm.length : Int))), guardB (!((!strEq ((a0.Xs.Zm.getD p1.toNat default).VS) (⟨#[]⟩ : ByteArray)) && (decide (r4 < 0)))) (decide (0 ≤ p1)), guardB (!((!strEq ((a0.Xs.Zm.getD p1.toNat default).VS) (⟨#[]⟩ : ByteArray)) && (decide (r4 < 0)))) (decide (p1 < (a0.Xs.Zm.length : Int))), guardB ((!((!strEq ((a0.Xs.Zm.getD p1.toNat default).VS) (⟨#[]⟩ : ByteArray)) && (decide (r4 < 0)))) && (!strEq ((a0.Xs.Zm.getD p1.toNat default).Y7) (⟨#[]⟩ : ByteArray))) (decide (0 ≤ p1)), guardB ((!((!strEq ((a0.Xs.Zm.getD p1.toNat default).VS) (⟨#[]⟩ : ByteArray)) && (decide (r4 < 0)))) && (!strEq ((a0.Xs.Zm.getD p1.toNat default).Y7) (⟨#[]⟩ : ByteArray))) (decide (p1 < (a0.Xs.Zm.length : Int)))] (bif ((!strEq ((a0.Xs.Zm.getD p1.toNat default).VS) (⟨#[]⟩ : ByteArray)) && (decide (r4 < 0))) || ((!strEq ((a0.Xs.Zm.getD p1.toNat default).Y7) (⟨#[]⟩ : ByteArray)) && (decide (r5 < 0))) then (some (.inr (.inr 5))) else ((loopM (M.QQ a0 p1) 0).bind fun y8 => Sum.elim (fun _ => some (.inl (wr .i64 (p1 + 1)))) (fun y10 => some (.inr (.inr y10))) y8))))) else (some (.inr (.inl ())))
noncomputable def M.J9 (a0 : Zf) : Option Int :=
  bif decide ((a0.Xs.Zm.length : Int) > 8) then (some 7) else ((loopM (M.QR a0) 0).bind fun y11 => Sum.elim (fun _ => some 0) (fun y13 => some y13) y11)
noncomputable def M.YW (a0 : Xy) (p1 : Int) (p4 : Int) : Option (Int ⊕ (Unit ⊕ Int)) :=
  bif decide (p4 < p1) then (gd [decide (0 ≤ p4), decide (p4 < (a0.Z1.length : Int)), decide (0 ≤ p1), decide (p1 < (a0.Z1.length : Int))] (bif ((((a0.Z1.getD p4.toNat default).Zy) == ((a0.Z1.getD p1.toNat default).Zy)) && ((((a0.Z1.getD p4.toNat default).ZW) == ((a0.Z1.getD p1.toNat default).ZW)) && true)) then (some (.inr (.inr 4))) else (some (.inl (wr .i64 (p4 + 1)))))) else (some (.inr (.inl ())))
noncomputable def M.YX (a0 : Xy) (p1 : Int) : Option (Int ⊕ (Unit ⊕ Int)) :=
  bif decide (p1 < (a0.Z1.length : Int)) then ((M.Y8 (a0.Z1.getD p1.toNat default)).bind fun r3 => gd [decide (0 ≤ p1), decide (p1 < (a0.Z1.length : Int))] (bif !r3 then (some (.inr (.inr 1))) else ((loopM (M.YW a0 p1) 0).bind fun y6 => Sum.elim (fun _ => some (.inl (wr .i64 (p1 + 1)))) (fun y8 => some (.inr (.inr y8))) y6))) else (some (.inr (.inl ())))
noncomputable def M.YY (a0 : Xy) (p12 : Int) (p15 : Int) : Option (Int ⊕ (Unit ⊕ Int)) :=
  bif decide (p15 < p12) then (gd [decide (0 ≤ p15), decide (p15 < (a0.ZE.length : Int)), decide (0 ≤ p12), decide (p12 < (a0.ZE.length : Int))] (bif (((((a0.ZE.getD p15.toNat default).Zo).Zy) == (((a0.ZE.getD p12.toNat default).Zo).Zy)) && (((((a0.ZE.getD p15.toNat default).Zo).ZW) == (((a0.ZE.getD p12.toNat default).Zo).ZW)) && true)) then (some (.inr (.inr 4))) else (some (.inl (wr .i64 (p15 + 1)))))) else (some (.inr (.inl ())))
noncomputable def M.YZ (a0 : Xy) (p12 : Int) : Option (Int ⊕ (Unit ⊕ Int)) :=
  bif decide (p12 < (a0.ZE.length : Int)) then ((M.Y8 ((a0.ZE.getD p12.toNat default).Zo)).bind fun r14 => gd [decide (0 ≤ p12), decide (p12 < (a0.ZE.length : Int))] (bif !r14 then (some (.inr (.inr 1))) else ((loopM (M.YY a0 p12) 0).bind fun y17 => Sum.elim (fun _ => some (.inl (wr .i64 (p12 + 1)))) (fun y19 => some (.inr (.inr y19))) y17))) else (some (.inr (.inl ())))
noncomputable def M.Y0 (a0 : Xy) (p23 : Int) (p27 : Int) : Option (Int ⊕ (Unit ⊕ Int)) :=
  bif decide (p27 < p23) then (gd [decide (0 ≤ p27), decide (p27 < (a0.Zt.length : Int))] (bif (((((a0.Zt.getD p27.toNat default).Zo).Zy) == (((a0.Zt.getD p23.toNat default).Zo).Zy)) && (((((a0.Zt.getD p27.toNat default).Zo).ZW) == (((a0.Zt.getD p23.toNat default).Zo).ZW)) && true)) then (some (.inr (.inr 4))) else (some (.inl (wr .i64 (p27 + 1)))))) else (some (.inr (.inl ())))
noncomputable def M.Y1 (a0 : Xy) (p23 : Int) : Option (Int ⊕ (Unit ⊕ Int)) :=
  bif decide (p23 < (a0.Zt.length : Int)) then (gd [decide (0 ≤ p23), decide (p23 < (a0.Zt.length : Int))] ((M.Y8 ((a0.Zt.getD p23.toNat default).Zo)).bind fun r25 => (gc (!(!r25)) (M.Y8 ((a0.Zt.getD p23.toNat default).fIf))).bind fun r26 => bif (!r25) || (!r26) then (some (.inr (.inr 1))) else (bif (((((a0.Zt.getD p23.toNat default).Zo).Zy) == (((a0.Zt.getD p23.toNat default).fIf).Zy)) && (((((a0.Zt.getD p23.toNat default).Zo).ZW) == (((a0.Zt.getD p23.toNat default).fIf).ZW)) && true)) then (some (.inr (.inr 6))) else ((loopM (M.Y0 a0 p23) 0).bind fun y29 => Sum.elim (fun _ => some (.inl (wr .i64 (p23 + 1)))) (fun y31 => some (.inr (.inr y31))) y29)))) else (some (.inr (.inl ())))
noncomputable def M.QS (a0 : Xy) : Option Int :=
  bif decide ((a0.Z1.length : Int) > 8) then (some 7) else ((loopM (M.YX a0) 0).bind fun y9 => Sum.elim (fun _ => bif decide ((a0.ZE.length : Int) > 8) then (some 7) else ((loopM (M.YZ a0) 0).bind fun y20 => Sum.elim (fun _ => bif decide ((a0.Zt.length : Int) > 8) then (some 7) else ((loopM (M.Y1 a0) 0).bind fun y32 => Sum.elim (fun _ => some 0) (fun y34 => some y34) y32)) (fun y22 => some y22) y20)) (fun y11 => some y11) y9)
noncomputable def M.QE (a0 : Zf) : Option Int :=
  bif !a0.Xs.Vz then (bif ((a0.Xs.XX != 0) || (a0.Xs.XY != 0)) || (decide ((wr .i64 ((wr .i64 ((wr .i64 ((wr .i64 ((a0.Xs.Zm.length : Int) + (a0.Xs.Z1.length : Int))) + (a0.Xs.ZE.length : Int))) + (a0.Xs.Zt.length : Int))) + (a0.Xs.Zs.length : Int))) > 0)) then (some 1) else (some 0)) else ((gc (!(a0.GA == 0)) (M.ZX a0.Xs.XX 1 255)).bind fun r1 => (gc (!((a0.GA == 0) || (!r1))) (M.ZX a0.Xs.XY 1 255)).bind fun r2 => bif ((a0.GA == 0) || (!r1)) || (!r2) then (some 1) else ((M.J9 a0).bind fun r3 => bif r3 != 0 then (some r3) else ((M.QS a0.Xs).bind fun r4 => bif r4 != 0 then (some r4) else ((M.X4 a0 a0.Xs.Zs 5 0 16777215).bind fun r5 => some r5))))
noncomputable def M.Ye (r3 : Int) (r4 : Int) (r5 : Int) (r6 : Int) (r7 : Int) (r8 : Int) (r9 : Int) (r10 : Int) (r11 : Int) (r12 : Int) (p13 : Int) : Option (Int ⊕ (Unit ⊕ Int)) :=
  bif decide (p13 < (([r3, r4, r5, r6, r7, r8, r9, r10, r11, r12] : List Int).length : Int)) then (gd [decide (0 ≤ p13), decide (p13 < (([r3, r4, r5, r6, r7, r8, r9, r10, r11, r12] : List Int).length : Int))] (bif (([r3, r4, r5, r6, r7, r8, r9, r10, r11, r12] : List Int).getD p13.toNat default) != 0 then (gd [decide (0 ≤ p13), decide (p13 < (([r3, r4, r5, r6, r7, r8, r9, r10, r11, r12] : List Int).length : Int))] (some (.inr (.inr (([r3, r4, r5, r6, r7, r8, r9, r10, r11, r12] : List Int).getD p13.toNat default))))) else (some (.inl (wr .i64 (p13 + 1)))))) else (some (.inr (.inl ())))
noncomputable def M.Ym (a0 : Zf) : Option Int :=
  (M.QW a0.Xj).bind fun r1 => bif !r1 then (some 3) else ((M.ZX a0.GA 0 65535).bind fun r2 => bif !r2 then (some 1) else ((M.Yd a0.Zc).bind fun r3 => (M.Qj a0.Yv).bind fun r4 => (M.QZ a0).bind fun r5 => (M.Qk a0.YD).bind fun r6 => (M.YV a0).bind fun r7 => (M.J7 a0).bind fun r8 => (M.J8 a0).bind fun r9 => (M.Q1 a0).bind fun r10 => (M.Js a0).bind fun r11 => (M.QE a0).bind fun r12 => (loopM (M.Ye r3 r4 r5 r6 r7 r8 r9 r10 r11 r12) 0).bind fun y15 => Sum.elim (fun _ => some 0) (fun y17 => some y17) y15))
noncomputable def M.Jt (a0 : ZB) (p1 : Int) (p4 : Int) : Option (Int ⊕ (Unit ⊕ Int)) :=
  bif decide (p4 < p1) then (gd [decide (0 ≤ p4), decide (p4 < (a0.Zd.length : Int)), decide (0 ≤ p1), decide (p1 < (a0.Zd.length : Int))] (bif strEq ((a0.Zd.getD p4.toNat default).Xj) ((a0.Zd.getD p1.toNat default).Xj) then (some (.inr (.inr 4))) else (some (.inl (wr .i64 (p4 + 1)))))) else (some (.inr (.inl ())))
noncomputable def M.Q9 (a0 : ZB) (p1 : Int) (p9 : Int) (p11 : Int) : Option (Int ⊕ (Unit ⊕ Int)) :=
  bif decide (p11 < p1) then ((gc (((((a0.Zd.getD p1.toNat default).Zc).getD p9.toNat default).ZW) != 0) (M.JB (a0.Zd.getD p11.toNat default) ((((a0.Zd.getD p1.toNat default).Zc).getD p9.toNat default).Zy))).bind fun r13 => gd [guardB (((((a0.Zd.getD p1.toNat default).Zc).getD p9.toNat default).ZW) != 0) (decide (0 ≤ p11)), guardB (((((a0.Zd.getD p1.toNat default).Zc).getD p9.toNat default).ZW) != 0) (decide (p11 < (a0.Zd.length : Int)))] (bif (((((a0.Zd.getD p1.toNat default).Zc).getD p9.toNat default).ZW) != 0) && (decide (r13 ≥ 0)) then (some (.inr (.inr 4))) else (some (.inl (wr .i64 (p11 + 1)))))) else (some (.inr (.inl ())))
noncomputable def M.Ja (a0 : ZB) (p1 : Int) (p9 : Int) : Option (Int ⊕ (Unit ⊕ Int)) :=
  gd [decide (0 ≤ p1), decide (p1 < (a0.Zd.length : Int))] (bif decide (p9 < (((a0.Zd.getD p1.toNat default).Zc).length : Int)) then (gd [decide (0 ≤ p1), decide (p1 < (a0.Zd.length : Int)), decide (0 ≤ p9), decide (p9 < (((a0.Zd.getD p1.toNat default).Zc).length : Int))] ((loopM (M.Q9 a0 p1 p9) 0).bind fun y14 => Sum.elim (fun _ => some (.inl (wr .i64 (p9 + 1)))) (fun y16 => some (.inr (.inr y16))) y14)) else (some (.inr (.inl ()))))
noncomputable def M.Jb (a0 : ZB) (p1 : Int) : Option (Int ⊕ (Unit ⊕ Int)) :=
  bif decide (p1 < (a0.Zd.length : Int)) then ((M.Ym (a0.Zd.getD p1.toNat default)).bind fun r3 => gd [decide (0 ≤ p1), decide (p1 < (a0.Zd.length : Int))] (bif r3 != 0 then (some (.inr (.inr r3))) else ((loopM (M.Jt a0 p1) 0).bind fun y6 => Sum.elim (fun _ => (loopM (M.Ja a0 p1) 0).bind fun y17 => Sum.elim (fun _ => some (.inl (wr .i64 (p1 + 1)))) (fun y19 => some (.inr (.inr y19))) y17) (fun y8 => some (.inr (.inr y8))) y6))) else (some (.inr (.inl ())))
noncomputable def M.Q2 (a0 : ZB) : Option Int :=
  bif decide ((a0.Zd.length : Int) > 8) then (some 7) else ((loopM (M.Jb a0) 0).bind fun y20 => Sum.elim (fun _ => some 0) (fun y22 => some y22) y20)
noncomputable def M.Vt (a0 : ZZ) (a1 : ZZ) : Option Int :=
  bif (decide (a0.Zy < a1.Zy)) || ((a0.Zy == a1.Zy) && (decide (a0.ZW < a1.ZW))) then (some (-1)) else (bif ((a0.Zy == a1.Zy) && ((a0.ZW == a1.ZW) && true)) then (some 0) else (some 1))
noncomputable def M.WJ (p16 : (List Zh) × Int) (p18 : (List Zh)) : Option (((List Zh) × Int) ⊕ (List Zh)) :=
  some (.inl (p18, wr .i64 (p16.2 + 1)))
noncomputable def M.Wa (a0 : ZB) (p14 : (List Zh) × Int) (p16 : (List Zh) × Int) (r19 : ZZ) (p20 : Int) : Option (Int ⊕ Int) :=
  (gc (decide (p20 < (p16.1.length : Int))) (M.Vt ((p16.1.getD (0 + p20.toNat) default).Zo) r19)).bind fun r22 => gd [guardB (decide (p20 < (p16.1.length : Int))) (decide (0 ≤ p20)), guardB (decide (p20 < (p16.1.length : Int))) (decide (p20 < (p16.1.length : Int))), guardB ((decide (p20 < (p16.1.length : Int))) && !(decide (r22 < 0))) (decide (0 ≤ p20)), guardB ((decide (p20 < (p16.1.length : Int))) && !(decide (r22 < 0))) (decide (p20 < (p16.1.length : Int))), guardB (((decide (p20 < (p16.1.length : Int))) && !(decide (r22 < 0))) && (((((p16.1.getD (0 + p20.toNat) default).Zo).Zy) == r19.Zy) && (((((p16.1.getD (0 + p20.toNat) default).Zo).ZW) == r19.ZW) && true))) (decide (0 ≤ p20)), guardB (((decide (p20 < (p16.1.length : Int))) && !(decide (r22 < 0))) && (((((p16.1.getD (0 + p20.toNat) default).Zo).Zy) == r19.Zy) && (((((p16.1.getD (0 + p20.toNat) default).Zo).ZW) == r19.ZW) && true))) (decide (p20 < (p16.1.length : Int)))] (bif (decide (p20 < (p16.1.length : Int))) && ((decide (r22 < 0)) || ((((((p16.1.getD (0 + p20.toNat) default).Zo).Zy) == r19.Zy) && (((((p16.1.getD (0 + p20.toNat) default).Zo).ZW) == r19.ZW) && true)) && (decide (((p16.1.getD (0 + p20.toNat) default).XD) < ((((a0.Zd.getD p14.2.toNat default).Zc).getD p16.2.toNat default).XD))))) then (some (.inl (wr .i64 (p20 + 1)))) else (some (.inr p20)))
noncomputable def M.WK (p14 : (List Zh) × Int) (p16 : (List Zh) × Int) (y23 : Int) (p24 : (List Zh)) : Option (((List Zh) × Int) ⊕ (List Zh)) :=
  gd [decide (0 ≤ y23), decide (y23 < (p24.length : Int)), decide ((((p24.getD (0 + y23.toNat) default).ZU).length + 1) * 16 ≤ 140737488355328), decide (0 ≤ y23), decide (y23 < (p24.length : Int))] (M.WJ p16 (p24.set (0 + y23.toNat) (⟨(p24.getD (0 + y23.toNat) default).Zo, (p24.getD (0 + y23.toNat) default).XD, ((p24.getD (0 + y23.toNat) default).ZU) ++ [(⟨p14.2, p16.2⟩ : Qo)]⟩ : Zh)))
noncomputable def M.Wb (a0 : ZB) (p14 : (List Zh) × Int) (p16 : (List Zh) × Int) : Option (((List Zh) × Int) ⊕ (List Zh)) :=
  gd [decide (0 ≤ p14.2), decide (p14.2 < (a0.Zd.length : Int))] (bif decide (p16.2 < (((a0.Zd.getD p14.2.toNat default).Zc).length : Int)) then (gd [decide (0 ≤ p14.2), decide (p14.2 < (a0.Zd.length : Int)), decide (0 ≤ p16.2), decide (p16.2 < (((a0.Zd.getD p14.2.toNat default).Zc).length : Int))] (bif (((((a0.Zd.getD p14.2.toNat default).Zc).getD p16.2.toNat default).ZW) == 0) || ((((a0.Zd.getD p14.2.toNat default).Zc).getD p16.2.toNat default).Qy) then (M.WJ p16 p16.1) else ((M.Qs ((((a0.Zd.getD p14.2.toNat default).Zc).getD p16.2.toNat default).Zy) ((((a0.Zd.getD p14.2.toNat default).Zc).getD p16.2.toNat default).ZW)).bind fun r19 => (loopM (M.Wa a0 p14 p16 r19) 0).bind fun y23 => gd [guardB (!(y23 == (p16.1.length : Int))) (decide (0 ≤ y23)), guardB (!(y23 == (p16.1.length : Int))) (decide (y23 < (p16.1.length : Int))), guardB (!((y23 == (p16.1.length : Int)) || (!(((((p16.1.getD (0 + y23.toNat) default).Zo).Zy) == r19.Zy) && (((((p16.1.getD (0 + y23.toNat) default).Zo).ZW) == r19.ZW) && true))))) (decide (0 ≤ y23)), guardB (!((y23 == (p16.1.length : Int)) || (!(((((p16.1.getD (0 + y23.toNat) default).Zo).Zy) == r19.Zy) && (((((p16.1.getD (0 + y23.toNat) default).Zo).ZW) == r19.ZW) && true))))) (decide (y23 < (p16.1.length : Int)))] (bif ((y23 == (p16.1.length : Int)) || (!(((((p16.1.getD (0 + y23.toNat) default).Zo).Zy) == r19.Zy) && (((((p16.1.getD (0 + y23.toNat) default).Zo).ZW) == r19.ZW) && true)))) || (((p16.1.getD (0 + y23.toNat) default).XD) != ((((a0.Zd.getD p14.2.toNat default).Zc).getD p16.2.toNat default).XD)) then (gd [decide (0 ≤ y23), decide (y23 ≤ (p16.1.length : Int)), decide (0 = 0) || decide (0 < (p16.1.length - y23.toNat)), decide ((0 + (p16.1.length - y23.toNat)) * 48 ≤ 140737488355328)] (gd [decide (0 ≤ y23), decide (y23 ≤ (p16.1.length : Int)), decide (((y23.toNat - 0) + 1) * 48 ≤ 140737488355328), decide ((((y23.toNat - 0) + 1) + (0 + (p16.1.length - y23.toNat))) * 48 ≤ 140737488355328)] (M.WK p14 p16 y23 (insL p16.1 y23.toNat (⟨r19, (((a0.Zd.getD p14.2.toNat default).Zc).getD p16.2.toNat default).XD, ([] : List Qo)⟩ : Zh))))) else (M.WK p14 p16 y23 p16.1))))) else (some (.inr p16.1)))
noncomputable def M.Wc (a0 : ZB) (p14 : (List Zh) × Int) : Option (((List Zh) × Int) ⊕ (List Zh)) :=
  bif decide (p14.2 < (a0.Zd.length : Int)) then ((loopM (M.Wb a0 p14) (p14.1, 0)).bind fun y25 => some (.inl (y25, wr .i64 (p14.2 + 1)))) else (some (.inr p14.1))
noncomputable def M.WL (p28 : (List Int) × Int) (p30 : (List Int)) : Option (((List Int) × Int) ⊕ (List Int)) :=
  some (.inl (p30, wr .i64 (p28.2 + 1)))
noncomputable def M.Wd (y26 : (List Zh)) (p28 : (List Int) × Int) : Option (((List Int) × Int) ⊕ (List Int)) :=
  bif decide (p28.2 < (y26.length : Int)) then (gd [decide (0 ≤ p28.2), decide (p28.2 < (y26.length : Int))] (bif decide ((((y26.getD p28.2.toNat default).ZU).length : Int) > 1) then (gd [decide ((p28.1.length + 1) * 8 ≤ 140737488355328)] (M.WL p28 (p28.1 ++ [p28.2]))) else (M.WL p28 p28.1))) else (some (.inr p28.1))
noncomputable def M.Up (a0 : ZB) : Option (Qr × Int) :=
  (M.Q2 a0).bind fun r1 => bif r1 != 0 then (some ((⟨([] : List Zh), ([] : List Int)⟩ : Qr), r1)) else ((loopM (M.Wc a0) (([] : List Zh), 0)).bind fun y26 => (loopM (M.Wd y26) (([] : List Int), 0)).bind fun y31 => bif decide ((y31.length : Int) > 12) then (some ((⟨([] : List Zh), ([] : List Int)⟩ : Qr), 7)) else (some ((⟨y26, y31⟩ : Qr), 0)))
noncomputable def M.X6 (a0 : List Int) (a1 : Int) (p1 : Int) : Option (Int ⊕ (Unit ⊕ Bool)) :=
  bif decide (p1 < (a0.length : Int)) then (gd [decide (0 ≤ p1), decide (p1 < (a0.length : Int)), guardB (!(decide ((a0.getD p1.toNat default) < 0))) (decide (0 ≤ p1)), guardB (!(decide ((a0.getD p1.toNat default) < 0))) (decide (p1 < (a0.length : Int))), guardB ((!((decide ((a0.getD p1.toNat default) < 0)) || (decide ((a0.getD p1.toNat default) ≥ a1)))) && (decide (p1 > 0))) (decide (0 ≤ p1)), guardB ((!((decide ((a0.getD p1.toNat default) < 0)) || (decide ((a0.getD p1.toNat default) ≥ a1)))) && (decide (p1 > 0))) (decide (p1 < (a0.length : Int))), guardB ((!((decide ((a0.getD p1.toNat default) < 0)) || (decide ((a0.getD p1.toNat default) ≥ a1)))) && (decide (p1 > 0))) (decide (0 ≤ (wr .i64 (p1 - 1)))), guardB ((!((decide ((a0.getD p1.toNat default) < 0)) || (decide ((a0.getD p1.toNat default) ≥ a1)))) && (decide (p1 > 0))) (decide ((wr .i64 (p1 - 1)) < (a0.length : Int)))] (bif ((decide ((a0.getD p1.toNat default) < 0)) || (decide ((a0.getD p1.toNat default) ≥ a1))) || ((decide (p1 > 0)) && (decide ((a0.getD p1.toNat default) ≤ (a0.getD (wr .i64 (p1 - 1)).toNat default)))) then (some (.inr (.inr false))) else (some (.inl (wr .i64 (p1 + 1)))))) else (some (.inr (.inl ())))
noncomputable def M.QF (a0 : List Int) (a1 : Int) : Option Bool :=
  bif decide ((a0.length : Int) > 2) then (some false) else ((loopM (M.X6 a0 a1) 0).bind fun y3 => Sum.elim (fun _ => some true) (fun y5 => some y5) y3)
noncomputable def M.KP (a0 : ZB) (a1 : List Int) : Option (Xq × Int) :=
  (M.Up a0).bind fun r1 => bif r1.2 != 0 then (some ((⟨(⟨([] : List Zf)⟩ : ZB), (⟨([] : List Zh), ([] : List Int)⟩ : Qr), ([] : List Int)⟩ : Xq), r1.2)) else ((M.QF a1 (r1.1.XB.length : Int)).bind fun r2 => bif !r2 then (some ((⟨(⟨([] : List Zf)⟩ : ZB), (⟨([] : List Zh), ([] : List Int)⟩ : Qr), ([] : List Int)⟩ : Xq), 1)) else (gd [decide (0 = 0) || decide (0 < a1.length), decide ((0 + a1.length) * 8 ≤ 140737488355328)] (some ((⟨a0, r1.1, (a1 : List Int)⟩ : Xq), 0))))
noncomputable def M.Uq (a0 : ZB) (a1 : List Int) : Option (Xq × Bool) :=
  (M.JT a0).bind fun r1 => bif (!r1) || (decide ((a1.length : Int) > 2)) then (some ((⟨(⟨([] : List Zf)⟩ : ZB), (⟨([] : List Zh), ([] : List Int)⟩ : Qr), ([] : List Int)⟩ : Xq), false)) else ((M.KP a0 a1).bind fun r2 => some (r2.1, r2.2 == 0))
noncomputable def M.XG (a0 : List Int) (a1 : Int) (p1 : Int) : Option (Int ⊕ (Unit ⊕ Int)) :=
  bif decide (p1 < (a0.length : Int)) then (gd [decide (0 ≤ p1), decide (p1 < (a0.length : Int))] (bif a1 == (a0.getD p1.toNat default) then (some (.inr (.inr p1))) else (some (.inl (wr .i64 (p1 + 1)))))) else (some (.inr (.inl ())))
noncomputable def M.XL (a0 : List Int) (a1 : Int) : Option Int :=
  (loopM (M.XG a0 a1) 0).bind fun y3 => Sum.elim (fun _ => some (-1)) (fun y5 => some y5) y3
noncomputable def M.Xx (a0 : List Int) (a1 : Int) : Option Bool :=
  (M.XL a0 a1).bind fun r1 => some (decide (r1 ≥ 0))
noncomputable def M.U2 (p1 : Int × Int) (p3 : Int) : Option ((Int × Int) ⊕ Int) :=
  some (.inl (p3, wr .i64 (p1.2 + 1)))
noncomputable def M.Ux (a0 : List Int) (a1 : List Qo) (p1 : Int × Int) : Option ((Int × Int) ⊕ Int) :=
  bif decide (p1.2 < (a1.length : Int)) then (gd [decide (0 ≤ p1.2), decide (p1.2 < (a1.length : Int))] (bif (decide (((a1.getD p1.2.toNat default).Xp) ≥ 0)) && (decide (((a1.getD p1.2.toNat default).Xp) < (a0.length : Int))) then (gd [decide (0 ≤ ((a1.getD p1.2.toNat default).Xp)), decide (((a1.getD p1.2.toNat default).Xp) < (a0.length : Int))] (M.U2 p1 (if (a0.getD (0 + ((a1.getD p1.2.toNat default).Xp).toNat) default) < p1.1 then (a0.getD (0 + ((a1.getD p1.2.toNat default).Xp).toNat) default) else p1.1))) else (M.U2 p1 p1.1))) else (some (.inr p1.1))
noncomputable def M.Uy (p5 : (List Int) × Bool × Int) (p7 : Bool × (List Int)) : Option (((List Int) × Bool × Int) ⊕ (Bool × (List Int))) :=
  some (.inl (p7.2, p7.1, wr .i64 (p5.2.2 + 1)))
noncomputable def M.W1 (a1 : List Qo) (y4 : Int) (p5 : (List Int) × Bool × Int) : Option (((List Int) × Bool × Int) ⊕ (Bool × (List Int))) :=
  bif decide (p5.2.2 < (a1.length : Int)) then (gd [decide (0 ≤ p5.2.2), decide (p5.2.2 < (a1.length : Int))] (gd [guardB ((decide (((a1.getD p5.2.2.toNat default).Xp) ≥ 0)) && (decide (((a1.getD p5.2.2.toNat default).Xp) < (p5.1.length : Int)))) (decide (0 ≤ ((a1.getD p5.2.2.toNat default).Xp))), guardB ((decide (((a1.getD p5.2.2.toNat default).Xp) ≥ 0)) && (decide (((a1.getD p5.2.2.toNat default).Xp) < (p5.1.length : Int)))) (decide (((a1.getD p5.2.2.toNat default).Xp) < (p5.1.length : Int)))] (bif ((decide (((a1.getD p5.2.2.toNat default).Xp) ≥ 0)) && (decide (((a1.getD p5.2.2.toNat default).Xp) < (p5.1.length : Int)))) && ((p5.1.getD (0 + ((a1.getD p5.2.2.toNat default).Xp).toNat) default) != y4) then (gd [decide (0 ≤ ((a1.getD p5.2.2.toNat default).Xp)), decide (((a1.getD p5.2.2.toNat default).Xp) < (p5.1.length : Int))] (M.Uy p5 (true, p5.1.set (0 + ((a1.getD p5.2.2.toNat default).Xp).toNat) y4))) else (M.Uy p5 (p5.2.1, p5.1))))) else (some (.inr (p5.2.1, p5.1)))
noncomputable def M.Ku (a0 : List Int) (a1 : List Qo) : Option ((List Int) × Bool) :=
  (loopM (M.Ux a0 a1) ((a0.length : Int), 0)).bind fun y4 => (loopM (M.W1 a1 y4) (a0, false, 0)).bind fun y8 => gd [decide (y8.2.length = a0.length)] (some (y8.2, y8.1))
noncomputable def M.We (a0 : Xq) (p1 : (List Int) × Int) : Option (((List Int) × Int) ⊕ (List Int)) :=
  bif decide (p1.2 < ((List.replicate ((a0.X5.Zd.length : Int).toNat) (0 : Int)).length : Int)) then (gd [decide (0 ≤ p1.2), decide (p1.2 < (p1.1.length : Int))] (some (.inl (p1.1.set (0 + p1.2.toNat) p1.2, wr .i64 (p1.2 + 1))))) else (some (.inr p1.1))
noncomputable def M.JN (p6 : (List Int) × Bool × Int) (p8 : Bool × (List Int)) : Option (((List Int) × Bool × Int) ⊕ (Bool × (List Int))) :=
  some (.inl (p8.2, p8.1, wr .i64 (p6.2.2 + 1)))
noncomputable def M.JO (a0 : Xq) (p6 : (List Int) × Bool × Int) : Option (((List Int) × Bool × Int) ⊕ (Bool × (List Int))) :=
  bif decide (p6.2.2 < (a0.ZV.XB.length : Int)) then (gd [decide (0 ≤ p6.2.2), decide (p6.2.2 < (a0.ZV.XB.length : Int))] ((gc (!((decide ((a0.ZV.XB.getD p6.2.2.toNat default) < 0)) || (decide ((a0.ZV.XB.getD p6.2.2.toNat default) ≥ (a0.ZV.Zv.length : Int))))) (M.Xx a0.Qy p6.2.2)).bind fun r9 => bif ((decide ((a0.ZV.XB.getD p6.2.2.toNat default) < 0)) || (decide ((a0.ZV.XB.getD p6.2.2.toNat default) ≥ (a0.ZV.Zv.length : Int)))) || r9 then (M.JN p6 (p6.2.1, p6.1)) else ((M.Ku p6.1 ((a0.ZV.Zv.getD (a0.ZV.XB.getD p6.2.2.toNat default).toNat default).ZU)).bind fun r10 => gd [decide (r10.1.length = p6.1.length)] (gd [decide (0 ≤ (a0.ZV.XB.getD p6.2.2.toNat default)), decide ((a0.ZV.XB.getD p6.2.2.toNat default) < (a0.ZV.Zv.length : Int))] (bif r10.2 then (M.JN p6 (true, r10.1)) else (M.JN p6 (p6.2.1, r10.1))))))) else (some (.inr (p6.2.1, p6.1)))
noncomputable def M.Vn (a0 : Xq) (p4 : (List Int) × Bool) : Option (((List Int) × Bool) ⊕ (List Int)) :=
  bif p4.2 then ((loopM (M.JO a0) (p4.1, false, 0)).bind fun y11 => some (.inl (y11.2, y11.1))) else (some (.inr p4.1))
noncomputable def M.Wl (a0 : Xq) : Option (List Int) :=
  gd [decide (0 ≤ (a0.X5.Zd.length : Int)), decide ((a0.X5.Zd.length : Int) ≤ (a0.X5.Zd.length : Int)), decide ((a0.X5.Zd.length : Int).toNat * 8 ≤ 140737488355328), decide ((a0.X5.Zd.length : Int).toNat ≤ 140737488355328)] ((loopM (M.We a0) (List.replicate ((a0.X5.Zd.length : Int).toNat) (0 : Int), 0)).bind fun y3 => (loopM (M.Vn a0) (y3, true)).bind fun y12 => some y12)
noncomputable def M.Jc (a0 : Xq) (a1 : Int) (a2 : Int) (p1 : Int) (p3 : Int) : Option (Int ⊕ (Unit ⊕ Int)) :=
  gd [decide (0 ≤ p1), decide (p1 < (a0.ZV.Zv.length : Int))] (bif decide (p3 < (((a0.ZV.Zv.getD p1.toNat default).ZU).length : Int)) then (gd [decide (0 ≤ p1), decide (p1 < (a0.ZV.Zv.length : Int)), decide (0 ≤ p3), decide (p3 < (((a0.ZV.Zv.getD p1.toNat default).ZU).length : Int))] (bif ((((((a0.ZV.Zv.getD p1.toNat default).ZU).getD p3.toNat default).Xp) == a1) && ((((((a0.ZV.Zv.getD p1.toNat default).ZU).getD p3.toNat default).J2) == a2) && true)) then (some (.inr (.inr p1))) else (some (.inl (wr .i64 (p3 + 1)))))) else (some (.inr (.inl ()))))
noncomputable def M.Jd (a0 : Xq) (a1 : Int) (a2 : Int) (p1 : Int) : Option (Int ⊕ (Unit ⊕ Int)) :=
  bif decide (p1 < (a0.ZV.Zv.length : Int)) then ((loopM (M.Jc a0 a1 a2 p1) 0).bind fun y5 => Sum.elim (fun _ => some (.inl (wr .i64 (p1 + 1)))) (fun y7 => some (.inr (.inr y7))) y5) else (some (.inr (.inl ())))
noncomputable def M.QT (a0 : Xq) (a1 : Int) (a2 : Int) : Option Int :=
  (loopM (M.Jd a0 a1 a2) 0).bind fun y8 => Sum.elim (fun _ => some (-1)) (fun y10 => some y10) y8
noncomputable def M.Ju (a0 : Xq) (r1 : Int) (p2 : Int) : Option (Int ⊕ (Unit ⊕ Int)) :=
  bif decide (p2 < (a0.ZV.XB.length : Int)) then (gd [guardB (decide (r1 ≥ 0)) (decide (0 ≤ p2)), guardB (decide (r1 ≥ 0)) (decide (p2 < (a0.ZV.XB.length : Int)))] (bif (decide (r1 ≥ 0)) && ((a0.ZV.XB.getD p2.toNat default) == r1) then (some (.inr (.inr p2))) else (some (.inl (wr .i64 (p2 + 1)))))) else (some (.inr (.inl ())))
noncomputable def M.Wf (a0 : Xq) (a1 : Int) (a2 : Int) : Option Int :=
  (M.QT a0 a1 a2).bind fun r1 => (loopM (M.Ju a0 r1) 0).bind fun y4 => Sum.elim (fun _ => some (-1)) (fun y6 => some y6) y4
noncomputable def M.VX (a0 : Xq) (r2 : Int) (p3 : Int) : Option (Int ⊕ (Unit ⊕ Bool)) :=
  bif decide (p3 < (a0.Qy.length : Int)) then (gd [decide (0 ≤ p3), decide (p3 < (a0.Qy.length : Int))] (bif (a0.Qy.getD p3.toNat default) == r2 then (some (.inr (.inr false))) else (some (.inl (wr .i64 (p3 + 1)))))) else (some (.inr (.inl ())))
noncomputable def M.UI (a0 : Xq) (a1 : Int) (a2 : Int) : Option Bool :=
  (M.QT a0 a1 a2).bind fun r1 => bif decide (r1 < 0) then (some false) else ((M.Wf a0 a1 a2).bind fun r2 => (loopM (M.VX a0 r2) 0).bind fun y5 => Sum.elim (fun _ => some true) (fun y7 => some y7) y5)
noncomputable def M.Vo (p3 : (List Qo) × Int) (p5 : (List Qo)) : Option (((List Qo) × Int) ⊕ (List Qo)) :=
  some (.inl (p5, wr .i64 (p3.2 + 1)))
noncomputable def M.W2 (a0 : Xq) (a1 : Int) (r2 : Int) (p3 : (List Qo) × Int) : Option (((List Qo) × Int) ⊕ (List Qo)) :=
  bif decide (p3.2 < (((a0.ZV.Zv.getD r2.toNat default).ZU).length : Int)) then (gd [decide (0 ≤ p3.2), decide (p3.2 < (((a0.ZV.Zv.getD r2.toNat default).ZU).length : Int))] (bif ((((a0.ZV.Zv.getD r2.toNat default).ZU).getD p3.2.toNat default).Xp) != a1 then (gd [decide (0 ≤ p3.2), decide (p3.2 < (((a0.ZV.Zv.getD r2.toNat default).ZU).length : Int)), decide ((p3.1.length + 1) * 16 ≤ 140737488355328)] (M.Vo p3 (p3.1 ++ [((a0.ZV.Zv.getD r2.toNat default).ZU).getD p3.2.toNat default]))) else (M.Vo p3 p3.1))) else (some (.inr p3.1))
noncomputable def M.Ue (a0 : Xq) (a1 : Int) (a2 : Int) : Option (List Qo) :=
  (M.UI a0 a1 a2).bind fun r1 => bif !r1 then (some ([] : List Qo)) else ((M.QT a0 a1 a2).bind fun r2 => gd [decide (0 ≤ r2), decide (r2 < (a0.ZV.Zv.length : Int))] ((loopM (M.W2 a0 a1 r2) (([] : List Qo), 0)).bind fun y6 => some y6))
noncomputable def M.VP (a0 : Xq) (p1 : (List Int) × Int) : Option (((List Int) × Int) ⊕ (List Int)) :=
  bif decide (p1.2 < (a0.X5.Zd.length : Int)) then (gd [decide (0 ≤ p1.2), decide (p1.2 < (p1.1.length : Int))] (some (.inl (p1.1.set (0 + p1.2.toNat) p1.2, wr .i64 (p1.2 + 1))))) else (some (.inr p1.1))
noncomputable def M.Ve (p6 : (List Int) × Int) (r10 : (List Qo)) (p11 : (List Int) × Int) : Option (((List Int) × Int) ⊕ (List Int)) :=
  bif decide (p11.2 < (r10.length : Int)) then (gd [decide (0 ≤ p6.2), decide (p6.2 < (p11.1.length : Int)), decide (0 ≤ p11.2), decide (p11.2 < (r10.length : Int)), decide (0 ≤ ((r10.getD p11.2.toNat default).Xp)), decide (((r10.getD p11.2.toNat default).Xp) < (p11.1.length : Int)), decide (0 ≤ p6.2), decide (p6.2 < (p11.1.length : Int))] (some (.inl (p11.1.set (0 + p6.2.toNat) (if (p11.1.getD (0 + ((r10.getD p11.2.toNat default).Xp).toNat) default) < (p11.1.getD (0 + p6.2.toNat) default) then (p11.1.getD (0 + ((r10.getD p11.2.toNat default).Xp).toNat) default) else (p11.1.getD (0 + p6.2.toNat) default)), wr .i64 (p11.2 + 1))))) else (some (.inr p11.1))
noncomputable def M.Vf (a0 : Xq) (p6 : (List Int) × Int) (p8 : (List Int) × Int) : Option (((List Int) × Int) ⊕ (List Int)) :=
  gd [decide (0 ≤ p6.2), decide (p6.2 < (a0.X5.Zd.length : Int))] (bif decide (p8.2 < (((a0.X5.Zd.getD p6.2.toNat default).Zc).length : Int)) then ((M.Ue a0 p6.2 p8.2).bind fun r10 => (loopM (M.Ve p6 r10) (p8.1, 0)).bind fun y13 => some (.inl (y13, wr .i64 (p8.2 + 1)))) else (some (.inr p8.1)))
noncomputable def M.Vg (a0 : Xq) (p6 : (List Int) × Int) : Option (((List Int) × Int) ⊕ (List Int)) :=
  bif decide (p6.2 < (a0.X5.Zd.length : Int)) then ((loopM (M.Vf a0 p6) (p6.1, 0)).bind fun y14 => some (.inl (y14, wr .i64 (p6.2 + 1)))) else (some (.inr p6.1))
noncomputable def M.Vh (a0 : Xq) (p4 : (List Int) × Int) : Option (((List Int) × Int) ⊕ (List Int)) :=
  bif decide (p4.2 < (a0.X5.Zd.length : Int)) then ((loopM (M.Vg a0) (p4.1, 0)).bind fun y15 => some (.inl (y15, wr .i64 (p4.2 + 1)))) else (some (.inr p4.1))
noncomputable def M.V3 (a0 : Xq) : Option (List Int) :=
  gd [decide (0 ≤ (a0.X5.Zd.length : Int)), decide ((a0.X5.Zd.length : Int) ≤ (a0.X5.Zd.length : Int)), decide ((a0.X5.Zd.length : Int).toNat * 8 ≤ 140737488355328), decide ((a0.X5.Zd.length : Int).toNat ≤ 140737488355328)] ((loopM (M.VP a0) (List.replicate ((a0.X5.Zd.length : Int).toNat) (0 : Int), 0)).bind fun y3 => (loopM (M.Vh a0) (y3, 0)).bind fun y16 => some y16)
noncomputable def M.Vu (a0 : List Int) (a1 : List Int) (p1 : Int) : Option (Int ⊕ (Unit ⊕ Bool)) :=
  bif decide (p1 < (a0.length : Int)) then (gd [decide (0 ≤ p1), decide (p1 < (a0.length : Int)), decide (0 ≤ p1), decide (p1 < (a1.length : Int))] (bif (a0.getD p1.toNat default) != (a1.getD p1.toNat default) then (some (.inr (.inr false))) else (some (.inl (wr .i64 (p1 + 1)))))) else (some (.inr (.inl ())))
noncomputable def M.WM (a0 : List Int) (a1 : List Int) : Option Bool :=
  bif (a0.length : Int) != (a1.length : Int) then (some false) else ((loopM (M.Vu a0 a1) 0).bind fun y3 => Sum.elim (fun _ => some true) (fun y5 => some y5) y3)
noncomputable def M.Wg  : Option ZB :=
  some (⟨([(⟨(⟨#[97]⟩ : ByteArray), 0, ([(⟨(⟨#[101, 48]⟩ : ByteArray), 167772161, 24, 0, false, false, 0, 0, false, (⟨#[]⟩ : ByteArray), (⟨#[]⟩ : ByteArray), 0⟩ : Zl)] : List Zl), ([] : List Z2), ([] : List Ya), ([] : List Ud), ([] : List YR), ([] : List YS), (⟨false, 0, ([] : List J3), ([] : List YJ)⟩ : Vl), (⟨false, 0, (⟨#[]⟩ : ByteArray), (⟨#[]⟩ : ByteArray), ([] : List YJ)⟩ : YC), (⟨false, 0, 0, ([] : List Jr), ([] : List ZZ), ([] : List J4), ([] : List J5), ([] : List YJ)⟩ : Xy)⟩ : Zf), (⟨(⟨#[98]⟩ : ByteArray), 0, ([(⟨(⟨#[101, 48]⟩ : ByteArray), 167772162, 24, 0, false, false, 0, 0, false, (⟨#[]⟩ : ByteArray), (⟨#[]⟩ : ByteArray), 0⟩ : Zl), (⟨(⟨#[101, 49]⟩ : ByteArray), 167772418, 24, 0, false, false, 0, 0, false, (⟨#[]⟩ : ByteArray), (⟨#[]⟩ : ByteArray), 0⟩ : Zl)] : List Zl), ([] : List Z2), ([] : List Ya), ([] : List Ud), ([] : List YR), ([] : List YS), (⟨false, 0, ([] : List J3), ([] : List YJ)⟩ : Vl), (⟨false, 0, (⟨#[]⟩ : ByteArray), (⟨#[]⟩ : ByteArray), ([] : List YJ)⟩ : YC), (⟨false, 0, 0, ([] : List Jr), ([] : List ZZ), ([] : List J4), ([] : List J5), ([] : List YJ)⟩ : Xy)⟩ : Zf)] : List Zf)⟩ : ZB)
noncomputable def M.VB (a0 : Int) : Option Bool :=
  some (((decide (65 ≤ a0)) && (decide (a0 ≤ 90))) || ((decide (97 ≤ a0)) && (decide (a0 ≤ 122))))
noncomputable def M.W3 (a0 : Int) : Option Bool :=
  some ((decide (48 ≤ a0)) && (decide (a0 ≤ 57)))
noncomputable def M.Wq (a0 : ByteArray) (p2 : Int) : Option (Int ⊕ Unit) :=
  bif decide (p2 < (a0.size : Int)) then (gd [decide (0 ≤ p2), decide (p2 < (a0.size : Int))] ((M.VB (byteAt a0 p2)).bind fun r4 => (gc (!r4) (M.W3 (byteAt a0 p2))).bind fun r5 => bif (((((!r4) && (!r5)) && ((byteAt a0 p2) != 45)) && ((byteAt a0 p2) != 95)) && ((byteAt a0 p2) != 47)) && ((byteAt a0 p2) != 46) then none else (some (.inl (wr .i64 (p2 + 1)))))) else (some (.inr ()))
noncomputable def M.WN (a0 : ByteArray) : Option Bool :=
  (gc (!((decide ((a0.size : Int) < 1)) || (decide ((a0.size : Int) > 15)))) (M.VB (byteAt a0 0))).bind fun r1 => gd [guardB (!((decide ((a0.size : Int) < 1)) || (decide ((a0.size : Int) > 15)))) (decide (0 ≤ 0)), guardB (!((decide ((a0.size : Int) < 1)) || (decide ((a0.size : Int) > 15)))) (decide (0 < (a0.size : Int)))] (bif ((decide ((a0.size : Int) < 1)) || (decide ((a0.size : Int) > 15))) || (!r1) then none else ((loopM (M.Wq a0) 1).bind fun y6 => some true))
noncomputable def M.Qu (a0 : Int) (a1 : Int) (a2 : Int) : Option Bool :=
  some ((decide (a1 ≤ a0)) && (decide (a0 ≤ a2)))
noncomputable def M.QU (a0 : Zl) (b0 : ByteArray) : Option Bool :=
  some (strEq a0.Xj b0)
noncomputable def M.ZR (a0 : List Zl) (a1c0 : ByteArray) (p1 : Int) : Option (Int ⊕ (Unit ⊕ Int)) :=
  bif decide (p1 < (a0.length : Int)) then ((M.QU (a0.getD p1.toNat default) a1c0).bind fun r3 => gd [decide (0 ≤ p1), decide (p1 < (a0.length : Int))] (bif r3 then (some (.inr (.inr p1))) else (some (.inl (wr .i64 (p1 + 1)))))) else (some (.inr (.inl ())))
noncomputable def M.ZH (a0 : List Zl) (a1c0 : ByteArray) : Option Int :=
  (loopM (M.ZR a0 a1c0) 0).bind fun y4 => Sum.elim (fun _ => some (-1)) (fun y6 => some y6) y4
noncomputable def M.JE (a0 : Zf) (a1 : ByteArray) : Option Int :=
  (M.ZH a0.Zc a1).bind fun r1 => some r1
noncomputable def M.Y2 (a0 : Zl) : Option Bool :=
  (M.Qu a0.ZW 0 32).bind fun r1 => (gc (!(!r1)) (M.Qu a0.XD 0 4094)).bind fun r2 => (gc (!((!r1) || (!r2))) (M.Qu a0.RJ 0 2)).bind fun r3 => bif ((!r1) || (!r2)) || (!r3) then none else (bif (a0.ZW == 0) && (((((((a0.Zy != 0) || (a0.XD != 0)) || (a0.RJ != 0)) || a0.Yi) || a0.Yn) || (!strEq a0.VS (⟨#[]⟩ : ByteArray))) || (!strEq a0.Y7 (⟨#[]⟩ : ByteArray))) then none else (bif (a0.ZW != 0) && (a0.Zy == 0) then none else (bif a0.Yi then none else (some ((a0.V8 == 0) && (a0.ZbZ == 0))))))
noncomputable def M.Wh (a0 : Int) : Option Int :=
  some (if (if 32 < a0 then 32 else a0) > 0 then (if 32 < a0 then 32 else a0) else 0)
noncomputable def M.WO (a0 : Int) : Option Int :=
  (M.Wh a0).bind fun r1 => gd [decide (0 ≤ (wr .i64 (32 - r1)))] (some (wr .u32 (4294967295 * 2 ^ min (wr .i64 (32 - r1)).toNat 32)))
noncomputable def M.Ji (a0 : Int) (a1 : Int) : Option ZZ :=
  (M.WO a1).bind fun r1 => (M.Wh a1).bind fun r2 => some (⟨bitD .and .u32 a0 r1, r2⟩ : ZZ)
noncomputable def M.Vv (a0 : ZZ) (a1 : Int) : Option Bool :=
  (M.WO a0.ZW).bind fun r1 => some ((bitD .and .u32 a1 r1) == a0.Zy)
noncomputable def M.VC (a0 : ZZ) (a1 : ZZ) : Option Bool :=
  (gc (decide (a0.ZW ≤ a1.ZW)) (M.Vv a0 a1.Zy)).bind fun r1 => some ((decide (a0.ZW ≤ a1.ZW)) && r1)
noncomputable def M.Vw (a0 : ZZ) (a1 : ZZ) : Option Bool :=
  (M.VC a0 a1).bind fun r1 => (gc (!r1) (M.VC a1 a0)).bind fun r2 => some (r1 || r2)
noncomputable def M.Yy (a0 : Zf) (p1 : Int) (p6 : Int) : Option (Int ⊕ Unit) :=
  bif decide (p6 < ((p1.toNat - 0 : Nat) : Int)) then (gd [decide (0 ≤ p6), decide (p6 < (((a0.Zc.drop 0).take (p1.toNat - 0)).length : Int))] ((gc ((((a0.Zc.getD p1.toNat default).ZW) != 0) && (((((a0.Zc.drop 0).take (p1.toNat - 0)).getD p6.toNat default).ZW) != 0)) (M.Ji ((a0.Zc.getD p1.toNat default).Zy) ((a0.Zc.getD p1.toNat default).ZW))).bind fun r8 => (gc ((((a0.Zc.getD p1.toNat default).ZW) != 0) && (((((a0.Zc.drop 0).take (p1.toNat - 0)).getD p6.toNat default).ZW) != 0)) (M.Ji ((((a0.Zc.drop 0).take (p1.toNat - 0)).getD p6.toNat default).Zy) ((((a0.Zc.drop 0).take (p1.toNat - 0)).getD p6.toNat default).ZW))).bind fun r9 => (gc ((((a0.Zc.getD p1.toNat default).ZW) != 0) && (((((a0.Zc.drop 0).take (p1.toNat - 0)).getD p6.toNat default).ZW) != 0)) (M.Vw r8 r9)).bind fun r10 => bif ((((a0.Zc.getD p1.toNat default).ZW) != 0) && (((((a0.Zc.drop 0).take (p1.toNat - 0)).getD p6.toNat default).ZW) != 0)) && r10 then none else (some (.inl (wr .i64 (p6 + 1)))))) else (some (.inr ()))
noncomputable def M.Yz (a0 : Zf) (p1 : Int) : Option (Int ⊕ Unit) :=
  bif decide (p1 < (a0.Zc.length : Int)) then (gd [decide (0 ≤ p1), decide (p1 < (a0.Zc.length : Int))] ((M.WN ((a0.Zc.getD p1.toNat default).Xj)).bind fun r3 => bif !r3 then none else ((M.JE a0 ((a0.Zc.getD p1.toNat default).Xj)).bind fun r4 => bif decide (r4 < p1) then none else ((M.Y2 (a0.Zc.getD p1.toNat default)).bind fun r5 => bif !r5 then none else (gd [decide (0 ≤ p1), decide (p1 ≤ (a0.Zc.length : Int))] ((loopM (M.Yy a0 p1) 0).bind fun y11 => some (.inl (wr .i64 (p1 + 1))))))))) else (some (.inr ()))
noncomputable def M.YK (a0 : Zf) : Option Int :=
  bif decide ((a0.Zc.length : Int) > 8) then none else ((loopM (M.Yz a0) 0).bind fun y12 => some 0)
noncomputable def M.Yq (a0 : Zf) (p1 : Int) : Option (Int ⊕ Unit) :=
  bif decide (p1 < (a0.Yv.length : Int)) then none else (some (.inr ()))
noncomputable def M.Yw (a0 : Zf) : Option Int :=
  bif decide ((a0.Yv.length : Int) > 8) then none else ((loopM (M.Yq a0) 0).bind fun y3 => some 0)
noncomputable def M.YM (a0 : Zf) (p1 : Int) : Option (Int ⊕ Unit) :=
  bif decide (p1 < (a0.XE.length : Int)) then none else (some (.inr ()))
noncomputable def M.Y3 (a0 : Zf) : Option Int :=
  bif decide ((a0.XE.length : Int) > 8) then none else ((loopM (M.YM a0) 0).bind fun y3 => some 0)
noncomputable def M.Q3 (a0 : Zf) (p1 : Int) : Option (Int ⊕ Unit) :=
  bif decide (p1 < (a0.YD.length : Int)) then none else (some (.inr ()))
noncomputable def M.JF (a0 : Zf) : Option Int :=
  bif decide ((a0.YD.length : Int) > 8) then none else ((loopM (M.Q3 a0) 0).bind fun y3 => some 0)
noncomputable def M.Jp (a0 : Zf) (p1 : Int) : Option (Int ⊕ Unit) :=
  bif decide (p1 < (a0.Xa.length : Int)) then none else (some (.inr ()))
noncomputable def M.Va (a0 : Zf) : Option Int :=
  bif decide ((a0.Xa.length : Int) > 8) then none else ((loopM (M.Jp a0) 0).bind fun y3 => some 0)
noncomputable def M.WP (_a0 : Zf) (_a1 : ByteArray) : Option Int :=
  none
noncomputable def M.Qa (a0 : Zf) (p1 : Int) : Option (Int ⊕ Unit) :=
  bif decide (p1 < (a0.Zc.length : Int)) then (gd [decide (0 ≤ p1), decide (p1 < (a0.Zc.length : Int))] ((gc (!strEq ((a0.Zc.getD p1.toNat default).VS) (⟨#[]⟩ : ByteArray)) (M.WP a0 ((a0.Zc.getD p1.toNat default).VS))).bind fun r3 => (gc ((!((!strEq ((a0.Zc.getD p1.toNat default).VS) (⟨#[]⟩ : ByteArray)) && (decide (r3 < 0)))) && (!strEq ((a0.Zc.getD p1.toNat default).Y7) (⟨#[]⟩ : ByteArray))) (M.WP a0 ((a0.Zc.getD p1.toNat default).Y7))).bind fun r4 => bif ((!strEq ((a0.Zc.getD p1.toNat default).VS) (⟨#[]⟩ : ByteArray)) && (decide (r3 < 0))) || ((!strEq ((a0.Zc.getD p1.toNat default).Y7) (⟨#[]⟩ : ByteArray)) && (decide (r4 < 0))) then none else (some (.inl (wr .i64 (p1 + 1)))))) else (some (.inr ()))
noncomputable def M.Qv (a0 : Zf) : Option Int :=
  (loopM (M.Qa a0) 0).bind fun y5 => some 0
noncomputable def M.Qb (a0 : Zf) (p1 : Int) : Option (Int ⊕ Unit) :=
  bif decide (p1 < (a0.Zq.length : Int)) then none else (some (.inr ()))
noncomputable def M.Qw (a0 : Zf) : Option Int :=
  bif decide ((a0.Zq.length : Int) > 16) then none else ((loopM (M.Qb a0) 0).bind fun y3 => some 0)
noncomputable def M.Y4 (a0 : Zf) : Option Int :=
  bif !a0.Yi.Vz then (bif ((a0.Yi.Xr != 0) || (decide ((a0.Yi.Z4.length : Int) > 0))) || (decide ((a0.Yi.Zs.length : Int) > 0)) then none else (some 0)) else none
noncomputable def M.Yb (a0 : Zf) : Option Int :=
  bif !a0.Yn.Vz then (bif (((a0.Yn.Xr != 0) || (!strEq a0.Yn.VS (⟨#[]⟩ : ByteArray))) || (!strEq a0.Yn.Y7 (⟨#[]⟩ : ByteArray))) || (decide ((a0.Yn.Zs.length : Int) > 0)) then none else (some 0)) else none
noncomputable def M.YL (a0 : Zf) : Option Int :=
  bif !a0.Xs.Vz then (bif ((((((a0.Xs.XX != 0) || (a0.Xs.XY != 0)) || (decide ((a0.Xs.Zm.length : Int) > 0))) || (decide ((a0.Xs.Z1.length : Int) > 0))) || (decide ((a0.Xs.ZE.length : Int) > 0))) || (decide ((a0.Xs.Zt.length : Int) > 0))) || (decide ((a0.Xs.Zs.length : Int) > 0)) then none else (some 0)) else none
noncomputable def M.QV (a0 : Zf) : Option Int :=
  (M.WN a0.Xj).bind fun r1 => bif !r1 then none else ((M.Qu a0.GA 0 65535).bind fun r2 => bif !r2 then none else (gd [decide (0 ≤ 0), decide (0 < (10 : Int))] ((M.YK a0).bind fun r3 => bif r3 != 0 then none else (gd [decide (0 ≤ 1), decide (1 < (10 : Int))] ((M.Yw a0).bind fun r4 => bif r4 != 0 then none else (gd [decide (0 ≤ 2), decide (2 < (10 : Int))] ((M.Y3 a0).bind fun r5 => bif r5 != 0 then none else (gd [decide (0 ≤ 3), decide (3 < (10 : Int))] ((M.JF a0).bind fun r6 => bif r6 != 0 then none else (gd [decide (0 ≤ 4), decide (4 < (10 : Int))] ((M.Va a0).bind fun r7 => bif r7 != 0 then none else (gd [decide (0 ≤ 5), decide (5 < (10 : Int))] ((M.Qv a0).bind fun r8 => bif r8 != 0 then none else (gd [decide (0 ≤ 6), decide (6 < (10 : Int))] ((M.Qw a0).bind fun r9 => bif r9 != 0 then none else (gd [decide (0 ≤ 7), decide (7 < (10 : Int))] ((M.Y4 a0).bind fun r10 => bif r10 != 0 then none else (gd [decide (0 ≤ 8), decide (8 < (10 : Int))] ((M.Yb a0).bind fun r11 => bif r11 != 0 then none else (gd [decide (0 ≤ 9), decide (9 < (10 : Int))] ((M.YL a0).bind fun r12 => bif r12 != 0 then none else (some 0))))))))))))))))))))))
noncomputable def M.JG (a0 : Zl) (b0 : Int) : Option Bool :=
  some ((a0.ZW != 0) && (a0.Zy == b0))
noncomputable def M.ZT (a0 : List Zl) (a1c0 : Int) (p1 : Int) : Option (Int ⊕ (Unit ⊕ Int)) :=
  bif decide (p1 < (a0.length : Int)) then ((M.JG (a0.getD p1.toNat default) a1c0).bind fun r3 => gd [decide (0 ≤ p1), decide (p1 < (a0.length : Int))] (bif r3 then (some (.inr (.inr p1))) else (some (.inl (wr .i64 (p1 + 1)))))) else (some (.inr (.inl ())))
noncomputable def M.ZL (a0 : List Zl) (a1c0 : Int) : Option Int :=
  (loopM (M.ZT a0 a1c0) 0).bind fun y4 => Sum.elim (fun _ => some (-1)) (fun y6 => some y6) y4
noncomputable def M.Vx (a0 : Zf) (a1 : Int) : Option Int :=
  (M.ZL a0.Zc a1).bind fun r1 => some r1
noncomputable def M.Y5 (a0 : Zl) (b0 : Zf) : Option Bool :=
  (gc (a0.ZW != 0) (M.Vx b0 a0.Zy)).bind fun r1 => some ((a0.ZW != 0) && (decide (r1 ≥ 0)))
noncomputable def M.ZI (a0 : List Zl) (a1c0 : Zf) (p1 : Int) : Option (Int ⊕ (Unit ⊕ Int)) :=
  bif decide (p1 < (a0.length : Int)) then ((M.Y5 (a0.getD p1.toNat default) a1c0).bind fun r3 => gd [decide (0 ≤ p1), decide (p1 < (a0.length : Int))] (bif r3 then (some (.inr (.inr p1))) else (some (.inl (wr .i64 (p1 + 1)))))) else (some (.inr (.inl ())))
noncomputable def M.ZC (a0 : List Zl) (a1c0 : Zf) : Option Int :=
  (loopM (M.ZI a0 a1c0) 0).bind fun y4 => Sum.elim (fun _ => some (-1)) (fun y6 => some y6) y4
noncomputable def M.ZA (a0 : List Zl) (a1c0 : Zf) : Option Bool :=
  (M.ZC a0 a1c0).bind fun r1 => some (decide (r1 ≥ 0))
noncomputable def M.Qx (a0 : Zf) (a1 : Zf) : Option Bool :=
  (M.ZA a1.Zc a0).bind fun r1 => some r1
noncomputable def M.VD (a0 : ZB) (p1 : Int) (p4 : Int) : Option (Int ⊕ Unit) :=
  bif decide (p4 < ((p1.toNat - 0 : Nat) : Int)) then (gd [decide (0 ≤ p4), decide (p4 < (((a0.Zd.drop 0).take (p1.toNat - 0)).length : Int))] ((gc (!(strEq ((((a0.Zd.drop 0).take (p1.toNat - 0)).getD p4.toNat default).Xj) ((a0.Zd.getD p1.toNat default).Xj))) (M.Qx (((a0.Zd.drop 0).take (p1.toNat - 0)).getD p4.toNat default) (a0.Zd.getD p1.toNat default))).bind fun r6 => bif (strEq ((((a0.Zd.drop 0).take (p1.toNat - 0)).getD p4.toNat default).Xj) ((a0.Zd.getD p1.toNat default).Xj)) || r6 then none else (some (.inl (wr .i64 (p4 + 1)))))) else (some (.inr ()))
noncomputable def M.VE (a0 : ZB) (p1 : Int) : Option (Int ⊕ Unit) :=
  bif decide (p1 < (a0.Zd.length : Int)) then (gd [decide (0 ≤ p1), decide (p1 < (a0.Zd.length : Int))] ((M.QV (a0.Zd.getD p1.toNat default)).bind fun r3 => bif r3 != 0 then none else (gd [decide (0 ≤ p1), decide (p1 ≤ (a0.Zd.length : Int))] ((loopM (M.VD a0 p1) 0).bind fun y7 => some (.inl (wr .i64 (p1 + 1))))))) else (some (.inr ()))
noncomputable def M.Wr (a0 : ZB) : Option Int :=
  bif decide ((a0.Zd.length : Int) > 8) then none else ((loopM (M.VE a0) 0).bind fun y8 => some 0)
noncomputable def M.Q4 (i : Int) (p : (List Zh) × (List (Z8 × Int)) × Int) (q : (List Zh) × (List (Z8 × Int)) × Int) : Option (((List Zh) × (List (Z8 × Int)) × Int) ⊕ ((List Zh) × (List (Z8 × Int)))) :=
  gd [decide (0 ≤ q.2.2), decide (q.2.2 < (q.1.length : Int)), decide (((q.1.getD (0 + q.2.2.toNat) default).ZU.length + 1) * 16 ≤ 140737488355328)] (some (.inl (q.1.set (0 + q.2.2.toNat) ⟨(q.1.getD (0 + q.2.2.toNat) default).Zo, (q.1.getD (0 + q.2.2.toNat) default).XD, (q.1.getD (0 + q.2.2.toNat) default).ZU ++ [⟨i, p.2.2⟩]⟩, q.2.1, wr .i64 (p.2.2 + 1))))
noncomputable def M.JH (a0 : ZB) (i : Int) (p : (List Zh) × (List (Z8 × Int)) × Int) : Option (((List Zh) × (List (Z8 × Int)) × Int) ⊕ ((List Zh) × (List (Z8 × Int)))) :=
  bif decide (p.2.2 < (((a0.Zd.getD i.toNat default).Zc).length : Int)) then (gd [decide (0 ≤ p.2.2), decide (p.2.2 < (((a0.Zd.getD i.toNat default).Zc).length : Int))] (bif (((a0.Zd.getD i.toNat default).Zc.getD p.2.2.toNat default).ZW == 0) || ((a0.Zd.getD i.toNat default).Zc.getD p.2.2.toNat default).Qy then (some (.inl (p.1, p.2.1, wr .i64 (p.2.2 + 1)))) else ((M.Ji ((a0.Zd.getD i.toNat default).Zc.getD p.2.2.toNat default).Zy ((a0.Zd.getD i.toNat default).Zc.getD p.2.2.toNat default).ZW).bind fun r => bif !(lkM (topoKeyEq ⟨r, ((a0.Zd.getD i.toNat default).Zc.getD p.2.2.toNat default).XD⟩) p.2.1).2 then (gd [decide ((p.1.length + 1) * 48 ≤ 140737488355328)] (M.Q4 i p (p.1 ++ [⟨r, ((a0.Zd.getD i.toNat default).Zc.getD p.2.2.toNat default).XD, []⟩], p.2.1 ++ [(⟨r, ((a0.Zd.getD i.toNat default).Zc.getD p.2.2.toNat default).XD⟩, (p.1.length : Int))], (p.1.length : Int)))) else (M.Q4 i p (p.1, p.2.1, (lkM (topoKeyEq ⟨r, ((a0.Zd.getD i.toNat default).Zc.getD p.2.2.toNat default).XD⟩) p.2.1).1))))) else (some (.inr (p.1, p.2.1)))
noncomputable def M.JI (a0 : ZB) (p : (List Zh) × (List (Z8 × Int)) × Int) : Option (((List Zh) × (List (Z8 × Int)) × Int) ⊕ (List Zh)) :=
  bif decide (p.2.2 < (a0.Zd.length : Int)) then (gd [decide (0 ≤ p.2.2), decide (p.2.2 < (a0.Zd.length : Int))] ((loopM (M.JH a0 p.2.2) (p.1, p.2.1, 0)).bind fun y => some (.inl (y.1, y.2, wr .i64 (p.2.2 + 1))))) else (some (.inr p.1))
noncomputable def M.VU (a0 : ZB) : Option (List Zh) :=
  (loopM (M.JI a0) ([], [], 0)).bind fun y => some y
noncomputable def M.YB (a0 : Int) : Option Bool :=
  some (a0 != a0)
noncomputable def M.YI (a0 : Int) (a1 : Int) : Option Int :=
  (M.YB a0).bind fun r1 => (M.YB a1).bind fun r2 => bif r1 then (bif r2 then (some 0) else (some (-1))) else (bif r2 then (some 1) else (bif decide (a0 < a1) then (some (-1)) else (bif decide (a0 > a1) then (some 1) else (some 0))))
noncomputable def M.QH (a0 : Int) : Option Bool :=
  some (a0 != a0)
noncomputable def M.YP (a0 : Int) (a1 : Int) : Option Int :=
  (M.QH a0).bind fun r1 => (M.QH a1).bind fun r2 => bif r1 then (bif r2 then (some 0) else (some (-1))) else (bif r2 then (some 1) else (bif decide (a0 < a1) then (some (-1)) else (bif decide (a0 > a1) then (some 1) else (some 0))))
noncomputable def M.Vb (a0 : ZZ) (a1 : ZZ) : Option Int :=
  (M.YI a0.Zy a1.Zy).bind fun r1 => bif r1 != 0 then (some r1) else ((M.YP a0.ZW a1.ZW).bind fun r2 => some r2)
noncomputable def M.Qn (a0 : List Int) (p1 : Int) : Option (Int ⊕ (Unit ⊕ Int)) :=
  bif decide (p1 < (a0.length : Int)) then (gd [decide (0 ≤ p1), decide (p1 < (a0.length : Int))] (bif (a0.getD p1.toNat default) != 0 then (some (.inr (.inr (a0.getD p1.toNat default)))) else (some (.inl (wr .i64 (p1 + 1)))))) else (some (.inr (.inl ())))
noncomputable def M.Wi (a0 : List Int) : Option Int :=
  (loopM (M.Qn a0) 0).bind fun y3 => Sum.elim (fun _ => some 0) (fun y5 => some y5) y3
noncomputable def M.JJ (a0 : Zh) (a1 : Zh) : Option Int :=
  (M.Vb a0.Zo a1.Zo).bind fun r1 => (M.YP a0.XD a1.XD).bind fun r2 => (M.Wi ([r1, r2] : List Int)).bind fun r3 => some r3
noncomputable def M.XC (a0 : List Zh) : Option (List Zh) :=
  sortU M.JJ a0
noncomputable def M.Jv (p5 : (List Int) × Int) (p7 : (List Int)) : Option (((List Int) × Int) ⊕ (List Int)) :=
  some (.inl (p7, wr .i64 (p5.2 + 1)))
noncomputable def M.VY (r3 : (List Zh)) (p5 : (List Int) × Int) : Option (((List Int) × Int) ⊕ (List Int)) :=
  bif decide (p5.2 < (r3.length : Int)) then (gd [decide (0 ≤ p5.2), decide (p5.2 < (r3.length : Int))] (bif decide ((((r3.getD p5.2.toNat default).ZU).length : Int) ≥ 2) then (gd [decide ((p5.1.length + 1) * 8 ≤ 140737488355328)] (M.Jv p5 (p5.1 ++ [p5.2]))) else (M.Jv p5 p5.1))) else (some (.inr p5.1))
noncomputable def M.W4 (a0 : ZB) : Option (Qr × Int) :=
  (M.Wr a0).bind fun r1 => bif r1 != 0 then none else ((M.VU a0).bind fun r2 => (M.XC r2).bind fun r3 => gd [decide (r3.length = r2.length)] ((loopM (M.VY r3) (([] : List Int), 0)).bind fun y8 => bif decide ((y8.length : Int) > 12) then none else (some ((⟨r3, y8⟩ : Qr), 0))))
noncomputable def M.XM (a0 : List Zf) : Option (List Zf) :=
  gd [decide (0 = 0) || decide (0 < a0.length), decide ((0 + a0.length) * 448 ≤ 140737488355328)] (some a0)
noncomputable def M.Xk (a0 : List Zl) : Option (List Zl) :=
  gd [decide (0 = 0) || decide (0 < a0.length), decide ((0 + a0.length) * 112 ≤ 140737488355328)] (some a0)
noncomputable def M.Xe (a0 : List Z2) : Option (List Z2) :=
  gd [decide (0 = 0) || decide (0 < a0.length), decide ((0 + a0.length) * 40 ≤ 140737488355328)] (some a0)
noncomputable def M.Xu (a0 : List Ya) : Option (List Ya) :=
  gd [decide (0 = 0) || decide (0 < a0.length), decide ((0 + a0.length) * 40 ≤ 140737488355328)] (some a0)
noncomputable def M.X1 (a0 : List Ud) : Option (List Ud) :=
  gd [decide (0 = 0) || decide (0 < a0.length), decide ((0 + a0.length) * 40 ≤ 140737488355328)] (some a0)
noncomputable def M.Xb (a0 : List YR) : Option (List YR) :=
  gd [decide (0 = 0) || decide (0 < a0.length), decide ((0 + a0.length) * 64 ≤ 140737488355328)] (some a0)
noncomputable def M.Xc (a0 : List YS) : Option (List YS) :=
  gd [decide (0 = 0) || decide (0 < a0.length), decide ((0 + a0.length) * 64 ≤ 140737488355328)] (some a0)
noncomputable def M.Xl (a0 : List J3) : Option (List J3) :=
  gd [decide (0 = 0) || decide (0 < a0.length), decide ((0 + a0.length) * 24 ≤ 140737488355328)] (some a0)
noncomputable def M.Z6 (a0 : List YJ) : Option (List YJ) :=
  gd [decide (0 = 0) || decide (0 < a0.length), decide ((0 + a0.length) * 48 ≤ 140737488355328)] (some a0)
noncomputable def M.Xv (a0 : List Jr) : Option (List Jr) :=
  gd [decide (0 = 0) || decide (0 < a0.length), decide ((0 + a0.length) * 48 ≤ 140737488355328)] (some a0)
noncomputable def M.XN (a0 : List ZZ) : Option (List ZZ) :=
  gd [decide (0 = 0) || decide (0 < a0.length), decide ((0 + a0.length) * 16 ≤ 140737488355328)] (some a0)
noncomputable def M.Xm (a0 : List J4) : Option (List J4) :=
  gd [decide (0 = 0) || decide (0 < a0.length), decide ((0 + a0.length) * 24 ≤ 140737488355328)] (some a0)
noncomputable def M.Xn (a0 : List J5) : Option (List J5) :=
  gd [decide (0 = 0) || decide (0 < a0.length), decide ((0 + a0.length) * 40 ≤ 140737488355328)] (some a0)
noncomputable def M.Q5 (r2 : (List Z2)) (p3 : Int) : Option (Int ⊕ Unit) :=
  bif decide (p3 < (r2.length : Int)) then none else (some (.inr ()))
noncomputable def M.Q6 (r6 : (List Ya)) (p7 : Int) : Option (Int ⊕ Unit) :=
  bif decide (p7 < (r6.length : Int)) then none else (some (.inr ()))
noncomputable def M.Q7 (r10 : (List Ud)) (p11 : Int) : Option (Int ⊕ Unit) :=
  bif decide (p11 < (r10.length : Int)) then none else (some (.inr ()))
noncomputable def M.JK (a0 : Zf) : Option Zf :=
  (M.Xk a0.Zc).bind fun r1 => (M.Xe a0.Yv).bind fun r2 => (loopM (M.Q5 r2) 0).bind fun y5 => (M.Xu a0.XE).bind fun r6 => (loopM (M.Q6 r6) 0).bind fun y9 => (M.X1 a0.YD).bind fun r10 => (loopM (M.Q7 r10) 0).bind fun y13 => (M.Xb a0.Xa).bind fun r14 => (M.Xc a0.Zq).bind fun r15 => (M.Xl a0.Yi.Z4).bind fun r16 => (M.Z6 a0.Yi.Zs).bind fun r17 => (M.Z6 a0.Yn.Zs).bind fun r18 => (M.Xv a0.Xs.Zm).bind fun r19 => (M.XN a0.Xs.Z1).bind fun r20 => (M.Xm a0.Xs.ZE).bind fun r21 => (M.Xn a0.Xs.Zt).bind fun r22 => (M.Z6 a0.Xs.Zs).bind fun r23 => some (⟨a0.Xj, a0.GA, r1, r2, r6, r10, r14, r15, (⟨a0.Yi.Vz, a0.Yi.Xr, r16, r17⟩ : Vl), (⟨a0.Yn.Vz, a0.Yn.Xr, a0.Yn.VS, a0.Yn.Y7, r18⟩ : YC), (⟨a0.Xs.Vz, a0.Xs.XX, a0.Xs.XY, r19, r20, r21, r22, r23⟩ : Xy)⟩ : Zf)
noncomputable def M.QI (r1 : (List Zf)) (p2 : (List Zf) × Int) : Option (((List Zf) × Int) ⊕ (List Zf)) :=
  bif decide (p2.2 < (r1.length : Int)) then ((M.JK (p2.1.getD (0 + p2.2.toNat) default)).bind fun r4 => gd [decide (0 ≤ p2.2), decide (p2.2 < (p2.1.length : Int)), decide (0 ≤ p2.2), decide (p2.2 < (p2.1.length : Int))] (some (.inl (p2.1.set (0 + p2.2.toNat) r4, wr .i64 (p2.2 + 1))))) else (some (.inr p2.1))
noncomputable def M.Jj (a0 : ZB) : Option ZB :=
  (M.XM a0.Zd).bind fun r1 => (loopM (M.QI r1) (r1, 0)).bind fun y5 => some (⟨y5⟩ : ZB)
noncomputable def M.Y6 (a0 : List Int) : Option (List Int) :=
  gd [decide (0 = 0) || decide (0 < a0.length), decide ((0 + a0.length) * 8 ≤ 140737488355328)] (some a0)
noncomputable def M.Ws (a1 : List Int) (r1 : Qr × Int) (p2 : Int) : Option (Int ⊕ Unit) :=
  bif decide (p2 < (a1.length : Int)) then (gd [decide (0 ≤ p2), decide (p2 < (a1.length : Int))] (gd [guardB ((!((decide ((a1.getD p2.toNat default) < 0)) || (decide ((a1.getD p2.toNat default) ≥ (r1.1.XB.length : Int))))) && (decide (p2 > 0))) (decide (0 ≤ (wr .i64 (p2 - 1)))), guardB ((!((decide ((a1.getD p2.toNat default) < 0)) || (decide ((a1.getD p2.toNat default) ≥ (r1.1.XB.length : Int))))) && (decide (p2 > 0))) (decide ((wr .i64 (p2 - 1)) < (a1.length : Int)))] (bif ((decide ((a1.getD p2.toNat default) < 0)) || (decide ((a1.getD p2.toNat default) ≥ (r1.1.XB.length : Int)))) || ((decide (p2 > 0)) && (decide ((a1.getD p2.toNat default) ≤ (a1.getD (wr .i64 (p2 - 1)).toNat default)))) then none else (some (.inl (wr .i64 (p2 + 1))))))) else (some (.inr ()))
noncomputable def M.WQ (a0 : ZB) (a1 : List Int) : Option (Xq × Int) :=
  (M.W4 a0).bind fun r1 => bif r1.2 != 0 then none else (bif decide ((a1.length : Int) > 2) then none else ((loopM (M.Ws a1 r1) 0).bind fun y4 => (M.Jj a0).bind fun r5 => (M.Y6 a1).bind fun r6 => some ((⟨r5, r1.1, r6⟩ : Xq), 0)))
noncomputable def M.X0 (a0 : List Qo) (a1 : Qo) (p1 : Int) : Option (Int ⊕ (Unit ⊕ Int)) :=
  bif decide (p1 < (a0.length : Int)) then (gd [decide (0 ≤ p1), decide (p1 < (a0.length : Int))] (bif ((a1.Xp == ((a0.getD p1.toNat default).Xp)) && ((a1.J2 == ((a0.getD p1.toNat default).J2)) && true)) then (some (.inr (.inr p1))) else (some (.inl (wr .i64 (p1 + 1)))))) else (some (.inr (.inl ())))
noncomputable def M.X2 (a0 : List Qo) (a1 : Qo) : Option Int :=
  (loopM (M.X0 a0 a1) 0).bind fun y3 => Sum.elim (fun _ => some (-1)) (fun y5 => some y5) y3
noncomputable def M.XT (a0 : List Qo) (a1 : Qo) : Option Bool :=
  (M.X2 a0 a1).bind fun r1 => some (decide (r1 ≥ 0))
noncomputable def M.VG (a0 : Xq) (a1 : Int) (a2 : Int) (p1 : Int) : Option (Int ⊕ (Unit ⊕ Int)) :=
  bif decide (p1 < (a0.ZV.Zv.length : Int)) then (gd [decide (0 ≤ p1), decide (p1 < (a0.ZV.Zv.length : Int))] ((M.XT ((a0.ZV.Zv.getD p1.toNat default).ZU) (⟨a1, a2⟩ : Qo)).bind fun r3 => bif r3 then (some (.inr (.inr p1))) else (some (.inl (wr .i64 (p1 + 1)))))) else (some (.inr (.inl ())))
noncomputable def M.VH (a0 : Xq) (a1 : Int) (a2 : Int) : Option Int :=
  (loopM (M.VG a0 a1 a2) 0).bind fun y4 => Sum.elim (fun _ => none) (fun y6 => some y6) y4
noncomputable def M.Uz (a0 : Xq) (a1 : Int) (a2 : Int) : Option Int :=
  (M.VH a0 a1 a2).bind fun r1 => bif decide (r1 < 0) then none else ((M.XL a0.ZV.XB r1).bind fun r2 => some r2)
noncomputable def M.UA (a0 : Xq) (a1 : Int) (a2 : Int) : Option Bool :=
  (M.VH a0 a1 a2).bind fun r1 => bif decide (r1 < 0) then none else ((M.Uz a0 a1 a2).bind fun r2 => (gc (!(decide (r2 < 0))) (M.Xx a0.Qy r2)).bind fun r3 => some ((decide (r2 < 0)) || (!r3)))
noncomputable def M.Wx  : Option Bool :=
  (M.Wg).bind fun r1 => (M.WQ r1 ([] : List Int)).bind fun r2 => (M.Wg).bind fun r3 => (M.WQ r3 ([0] : List Int)).bind fun r4 => (gc ((((r2.2 == 0) && (r4.2 == 0)) && ((r2.1.ZV.Zv.length : Int) == 2)) && ((r2.1.ZV.XB.length : Int) == 1)) (M.UA r2.1 0 0)).bind fun r5 => (gc (((((r2.2 == 0) && (r4.2 == 0)) && ((r2.1.ZV.Zv.length : Int) == 2)) && ((r2.1.ZV.XB.length : Int) == 1)) && r5) (M.UA r4.1 0 0)).bind fun r6 => (gc ((((((r2.2 == 0) && (r4.2 == 0)) && ((r2.1.ZV.Zv.length : Int) == 2)) && ((r2.1.ZV.XB.length : Int) == 1)) && r5) && (!r6)) (M.UA r4.1 1 1)).bind fun r7 => some (((((((r2.2 == 0) && (r4.2 == 0)) && ((r2.1.ZV.Zv.length : Int) == 2)) && ((r2.1.ZV.XB.length : Int) == 1)) && r5) && (!r6)) && r7)
noncomputable def M.QX (r2 : (List Int)) (r7 : (List Int)) (p10 : Int) : Option (Int ⊕ (Unit ⊕ Bool)) :=
  bif decide (p10 < (r7.length : Int)) then (gd [decide (0 ≤ p10), decide (p10 < (r7.length : Int)), guardB (!(decide ((r7.getD p10.toNat default) < 0))) (decide (0 ≤ p10)), guardB (!(decide ((r7.getD p10.toNat default) < 0))) (decide (p10 < (r7.length : Int))), guardB (!((decide ((r7.getD p10.toNat default) < 0)) || (decide ((r7.getD p10.toNat default) ≥ (r2.length : Int))))) (decide (0 ≤ p10)), guardB (!((decide ((r7.getD p10.toNat default) < 0)) || (decide ((r7.getD p10.toNat default) ≥ (r2.length : Int))))) (decide (p10 < (r2.length : Int))), guardB (!((decide ((r7.getD p10.toNat default) < 0)) || (decide ((r7.getD p10.toNat default) ≥ (r2.length : Int))))) (decide (0 ≤ p10)), guardB (!((decide ((r7.getD p10.toNat default) < 0)) || (decide ((r7.getD p10.toNat default) ≥ (r2.length : Int))))) (decide (p10 < (r7.length : Int))), guardB (!((decide ((r7.getD p10.toNat default) < 0)) || (decide ((r7.getD p10.toNat default) ≥ (r2.length : Int))))) (decide (0 ≤ (r7.getD p10.toNat default))), guardB (!((decide ((r7.getD p10.toNat default) < 0)) || (decide ((r7.getD p10.toNat default) ≥ (r2.length : Int))))) (decide ((r7.getD p10.toNat default) < (r2.length : Int)))] (bif ((decide ((r7.getD p10.toNat default) < 0)) || (decide ((r7.getD p10.toNat default) ≥ (r2.length : Int)))) || ((r2.getD p10.toNat default) != (r2.getD (r7.getD p10.toNat default).toNat default)) then (some (.inr (.inr false))) else (some (.inl (wr .i64 (p10 + 1)))))) else (some (.inr (.inl ())))
noncomputable def M.Wt (a0 : ZB) (a1 : Int) : Option Bool :=
  (M.Uq a0 ([] : List Int)).bind fun r1 => bif !r1.2 then (some true) else ((M.Wl r1.1).bind fun r2 => (M.V3 r1.1).bind fun r3 => (M.WM r2 r3).bind fun r4 => bif !r4 then (some false) else ((M.Uq a0 ([a1] : List Int)).bind fun r5 => bif !r5.2 then ((M.Wx).bind fun r6 => some r6) else ((M.Wl r5.1).bind fun r7 => (M.V3 r5.1).bind fun r8 => (M.WM r7 r8).bind fun r9 => bif (!r9) || ((r2.length : Int) != (r7.length : Int)) then (some false) else ((loopM (M.QX r2 r7) 0).bind fun y12 => Sum.elim (fun _ => (M.Wx).bind fun r15 => some r15) (fun y14 => some y14) y12))))
end Nv
