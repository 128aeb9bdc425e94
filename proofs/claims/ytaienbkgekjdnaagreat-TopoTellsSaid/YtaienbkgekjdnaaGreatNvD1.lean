/- The mirrors: what each function of the given program computes, in plain terms. -/
import Derived.Test.YtaienbkgekjdnaaGreatNvLibB
import Derived.Test.YtaienbkgekjdnaaGreatNvLibD
import Derived.Test.YtaienbkgekjdnaaGreatNvLibC
set_option maxRecDepth 100000
namespace Nv
open Go
structure Zl where
  Xm : ByteArray
  Zx : Int
  ZV : Int
  XE : Int
  QY : Bool
  Yh : Bool
  V0 : Int
  ZbN : Int
  Yo : Bool
  VQ : ByteArray
  Qa : ByteArray
  RA : Int
  deriving Inhabited
def Zj (x : Zl) : List D := [.str x.Xm, .int .u32 x.Zx, .int .i64 x.ZV, .int .i64 x.XE, .bool x.QY, .bool x.Yh, .int .i64 x.V0, .int .i64 x.ZbN, .bool x.Yo, .str x.VQ, .str x.Qa, .int .i64 x.RA]
structure ZZ where
  Zx : Int
  ZV : Int
  deriving Inhabited
def Xg (x : ZZ) : List D := [.int .u32 x.Zx, .int .i64 x.ZV]
structure Ue where
  ZbO : Bool
  Zo : ZZ
  Zii : Int
  Zij : Int
  deriving Inhabited
def Kb (x : Ue) : List D := [.bool x.ZbO, .int .u32 x.Zo.Zx, .int .i64 x.Zo.ZV, .int .i64 x.Zii, .int .i64 x.Zij]
structure Z2 where
  Xm : ByteArray
  YH : List Ue
  deriving Inhabited
def Zu (x : Z2) : List D := [.str x.Xm, sL 5 Kb x.YH]
structure Zam where
  ZbO : Bool
  J3 : ByteArray
  KI : Int
  GC : Int
  ZbP : Int
  RB : Int
  RC : Int
  deriving Inhabited
def Zff (x : Zam) : List D := [.bool x.ZbO, .str x.J3, .int .i64 x.KI, .int .i64 x.GC, .int .i64 x.ZbP, .int .i64 x.RB, .int .i64 x.RC]
structure Ya where
  Xm : ByteArray
  X1 : List Zam
  deriving Inhabited
def Z0 (x : Ya) : List D := [.str x.Xm, sL 7 Zff x.X1]
structure Zan where
  Zx : Int
  Gq : Int
  deriving Inhabited
def ZgE (x : Zan) : List D := [.int .u32 x.Zx, .int .u32 x.Gq]
structure VI where
  Kq : Int
  K7 : Int
  deriving Inhabited
def KJ (x : VI) : List D := [.int .i64 x.Kq, .int .i64 x.K7]
structure Zen where
  ZbO : Bool
  YS : Int
  Za3 : Zan
  Za4 : Zan
  Uk : VI
  Ul : VI
  deriving Inhabited
def ZfN (x : Zen) : List D := [.bool x.ZbO, .int .i64 x.YS, .int .u32 x.Za3.Zx, .int .u32 x.Za3.Gq, .int .u32 x.Za4.Zx, .int .u32 x.Za4.Gq, .int .i64 x.Uk.Kq, .int .i64 x.Uk.K7, .int .i64 x.Ul.Kq, .int .i64 x.Ul.K7]
structure W3 where
  Xm : ByteArray
  YH : List Zen
  deriving Inhabited
def Yv (x : W3) : List D := [.str x.Xm, sL 10 ZfN x.YH]
structure YT where
  Wr : Int
  JD : Int
  QC : Int
  YS : Int
  JT : Int
  Jh : Int
  J3 : ByteArray
  Kq : Int
  K7 : Int
  deriving Inhabited
def Z3 (x : YT) : List D := [.int .i64 x.Wr, .int .u32 x.JD, .int .u32 x.QC, .int .i64 x.YS, .int .i64 x.JT, .int .i64 x.Jh, .str x.J3, .int .u32 x.Kq, .int .u32 x.K7]
structure YU where
  Zo : ZZ
  UR : Int
  XY : ByteArray
  Zeo : Bool
  Xr : Int
  KI : Int
  deriving Inhabited
def Xb (x : YU) : List D := [.int .u32 x.Zo.Zx, .int .i64 x.Zo.ZV, .int .u32 x.UR, .str x.XY, .bool x.Zeo, .int .i64 x.Xr, .int .i64 x.KI]
structure J4 where
  V0 : Int
  Zo : ZZ
  deriving Inhabited
def Xz (x : J4) : List D := [.int .i64 x.V0, .int .u32 x.Zo.Zx, .int .i64 x.Zo.ZV]
structure YK where
  GD : Int
  ZbQ : Int
  KI : Int
  ZcA : ByteArray
  Zc4 : Int
  deriving Inhabited
def Zz (x : YK) : List D := [.int .i64 x.GD, .int .i64 x.ZbQ, .int .i64 x.KI, .str x.ZcA, .int .i64 x.Zc4]
structure Vj where
  Vw : Bool
  Xr : Int
  Z6 : List J4
  Zs : List YK
  deriving Inhabited
def ZbR (x : Vj) : List D := [.bool x.Vw, .int .i64 x.Xr, sL 3 Xz x.Z6, sL 5 Zz x.Zs]
structure YE where
  Vw : Bool
  Xr : Int
  VQ : ByteArray
  Qa : ByteArray
  Zs : List YK
  deriving Inhabited
def ZbS (x : YE) : List D := [.bool x.Vw, .int .i64 x.Xr, .str x.VQ, .str x.Qa, sL 5 Zz x.Zs]
structure Jv where
  Zx : Int
  Gt : Int
  VQ : ByteArray
  Qa : ByteArray
  deriving Inhabited
def XL (x : Jv) : List D := [.int .u32 x.Zx, .int .i64 x.Gt, .str x.VQ, .str x.Qa]
structure J5 where
  Zo : ZZ
  Zlk : Bool
  deriving Inhabited
def XA (x : J5) : List D := [.int .u32 x.Zo.Zx, .int .i64 x.Zo.ZV, .bool x.Zlk]
structure J6 where
  Zo : ZZ
  fIf : ZZ
  ZkC : Bool
  deriving Inhabited
def Xt (x : J6) : List D := [.int .u32 x.Zo.Zx, .int .i64 x.Zo.ZV, .int .u32 x.fIf.Zx, .int .i64 x.fIf.ZV, .bool x.ZkC]
structure Xy where
  Vw : Bool
  XZ : Int
  X0 : Int
  Zm : List Jv
  Z1 : List ZZ
  ZE : List J5
  Zt : List J6
  Zs : List YK
  deriving Inhabited
def Ga (x : Xy) : List D := [.bool x.Vw, .int .i64 x.XZ, .int .i64 x.X0, sL 4 XL x.Zm, sL 2 Xg x.Z1, sL 3 XA x.ZE, sL 5 Xt x.Zt, sL 5 Zz x.Zs]
structure Zf where
  Xm : ByteArray
  Gt : Int
  Zc : List Zl
  Yw : List Z2
  XF : List Ya
  YF : List W3
  Xc : List YT
  Zr : List YU
  Yh : Vj
  Yo : YE
  Xs : Xy
  deriving Inhabited
def Zp (x : Zf) : List D := [.str x.Xm, .int .i64 x.Gt, sL 12 Zj x.Zc, sL 2 Zu x.Yw, sL 2 Z0 x.XF, sL 2 Yv x.YF, sL 9 Z3 x.Xc, sL 7 Xb x.Zr, .bool x.Yh.Vw, .int .i64 x.Yh.Xr, sL 3 Xz x.Yh.Z6, sL 5 Zz x.Yh.Zs, .bool x.Yo.Vw, .int .i64 x.Yo.Xr, .str x.Yo.VQ, .str x.Yo.Qa, sL 5 Zz x.Yo.Zs, .bool x.Xs.Vw, .int .i64 x.Xs.XZ, .int .i64 x.Xs.X0, sL 4 XL x.Xs.Zm, sL 2 Xg x.Xs.Z1, sL 3 XA x.Xs.ZE, sL 5 Xt x.Xs.Zt, sL 5 Zz x.Xs.Zs]
structure ZB where
  Zd : List Zf
  deriving Inhabited
def XS (x : ZB) : List D := [sL 25 Zp x.Zd]
structure XU where
  XJ : Int
  XY : Int
  deriving Inhabited
def ZQ (x : XU) : List D := [.int .i64 x.XJ, .int .i64 x.XY]
structure Zh where
  Zo : ZZ
  XE : Int
  ZT : List XU
  deriving Inhabited
def ZF (x : Zh) : List D := [.int .u32 x.Zo.Zx, .int .i64 x.Zo.ZV, .int .i64 x.XE, sL 2 ZQ x.ZT]
structure Qt where
  Zv : List Zh
  YC : List Int
  deriving Inhabited
def G3 (x : Qt) : List D := [sL 4 ZF x.Zv, sL 1 (ci .i64) x.YC]
structure XM where
  VD : ZB
  Xd : Qt
  QY : List Int
  deriving Inhabited
def YV (x : XM) : List D := [sL 25 Zp x.VD.Zd, sL 4 ZF x.Xd.Zv, sL 1 (ci .i64) x.Xd.YC, sL 1 (ci .i64) x.QY]
structure Xa where
  Zao : ZZ
  ZjI : Int
  deriving Inhabited
def Z7 (x : Xa) : List D := [.int .u32 x.Zao.Zx, .int .i64 x.Zao.ZV, .int .i64 x.ZjI]
def hdDom (x : Zh) : List D := [.int .u32 x.Zo.Zx, .int .i64 x.Zo.ZV, .int .i64 x.XE]
def topoKeyEq (a b : Xa) : Bool := (((a.Zao.Zx == b.Zao.Zx) && ((a.Zao.ZV == b.Zao.ZV) && true)) && ((a.ZjI == b.ZjI) && true))
noncomputable def M.Vm (a0 : Zf) (p1 : Int) : Option (Int ⊕ (Unit ⊕ Bool)) :=
  bif decide (p1 < (a0.Yw.length : Int)) then (gd [decide (0 ≤ p1), decide (p1 < (a0.Yw.length : Int))] (bif decide ((((a0.Yw.getD p1.toNat default).YH).length : Int) > 20) then (some (.inr (.inr false))) else (some (.inl (wr .i64 (p1 + 1)))))) else (some (.inr (.inl ())))
noncomputable def M.Vn (a0 : Zf) (p6 : Int) : Option (Int ⊕ (Unit ⊕ Bool)) :=
  bif decide (p6 < (a0.XF.length : Int)) then (gd [decide (0 ≤ p6), decide (p6 < (a0.XF.length : Int))] (bif decide ((((a0.XF.getD p6.toNat default).X1).length : Int) > 12) then (some (.inr (.inr false))) else (some (.inl (wr .i64 (p6 + 1)))))) else (some (.inr (.inl ())))
noncomputable def M.Vo (a0 : Zf) (p11 : Int) : Option (Int ⊕ (Unit ⊕ Bool)) :=
  bif decide (p11 < (a0.YF.length : Int)) then (gd [decide (0 ≤ p11), decide (p11 < (a0.YF.length : Int))] (bif decide ((((a0.YF.getD p11.toNat default).YH).length : Int) > 20) then (some (.inr (.inr false))) else (some (.inl (wr .i64 (p11 + 1)))))) else (some (.inr (.inl ())))
noncomputable def M.Vk (a0 : Zf) : Option Bool :=
  bif (((((((((((((decide ((a0.Zc.length : Int) > 12)) || (decide ((a0.Yw.length : Int) > 12))) || (decide ((a0.XF.length : Int) > 12))) || (decide ((a0.YF.length : Int) > 12))) || (decide ((a0.Xc.length : Int) > 12))) || (decide ((a0.Zr.length : Int) > 20))) || (decide ((a0.Yh.Z6.length : Int) > 8))) || (decide ((a0.Yh.Zs.length : Int) > 8))) || (decide ((a0.Yo.Zs.length : Int) > 8))) || (decide ((a0.Xs.Zs.length : Int) > 8))) || (decide ((a0.Xs.Zm.length : Int) > 12))) || (decide ((a0.Xs.Z1.length : Int) > 12))) || (decide ((a0.Xs.ZE.length : Int) > 12))) || (decide ((a0.Xs.Zt.length : Int) > 12)) then (some false) else ((loopM (M.Vm a0) 0).bind fun y3 => Sum.elim (fun _ => (loopM (M.Vn a0) 0).bind fun y8 => Sum.elim (fun _ => (loopM (M.Vo a0) 0).bind fun y13 => Sum.elim (fun _ => some true) (fun y15 => some y15) y13) (fun y10 => some y10) y8) (fun y5 => some y5) y3)
noncomputable def M.Qk (a0 : ZB) (p1 : Int) : Option (Int ⊕ (Unit ⊕ Bool)) :=
  bif decide (p1 < (a0.Zd.length : Int)) then ((M.Vk (a0.Zd.getD p1.toNat default)).bind fun r3 => gd [decide (0 ≤ p1), decide (p1 < (a0.Zd.length : Int))] (bif !r3 then (some (.inr (.inr false))) else (some (.inl (wr .i64 (p1 + 1)))))) else (some (.inr (.inl ())))
noncomputable def M.JU (a0 : ZB) : Option Bool :=
  bif decide ((a0.Zd.length : Int) > 9) then (some false) else ((loopM (M.Qk a0) 0).bind fun y4 => Sum.elim (fun _ => some true) (fun y6 => some y6) y4)
noncomputable def M.Vx (a0 : Int) : Option Bool :=
  some (((decide (a0 ≥ 97)) && (decide (a0 ≤ 122))) || ((decide (a0 ≥ 65)) && (decide (a0 ≤ 90))))
noncomputable def M.VR (a0 : ByteArray) (p2 : Int) : Option (Int ⊕ (Unit ⊕ Bool)) :=
  bif decide (p2 < (a0.size : Int)) then (gd [decide (0 ≤ p2), decide (p2 < (a0.size : Int))] ((M.Vx (byteAt a0 p2)).bind fun r4 => bif (((((!r4) && (!((decide ((byteAt a0 p2) ≥ 48)) && (decide ((byteAt a0 p2) ≤ 57))))) && ((byteAt a0 p2) != 45)) && ((byteAt a0 p2) != 95)) && ((byteAt a0 p2) != 47)) && ((byteAt a0 p2) != 46) then (some (.inr (.inr false))) else (some (.inl (wr .i64 (p2 + 1)))))) else (some (.inr (.inl ())))
noncomputable def M.QZ (a0 : ByteArray) : Option Bool :=
  (gc (!((decide ((a0.size : Int) < 1)) || (decide ((a0.size : Int) > 15)))) (M.Vx (byteAt a0 0))).bind fun r1 => gd [guardB (!((decide ((a0.size : Int) < 1)) || (decide ((a0.size : Int) > 15)))) (decide (0 ≤ 0)), guardB (!((decide ((a0.size : Int) < 1)) || (decide ((a0.size : Int) > 15)))) (decide (0 < (a0.size : Int)))] (bif ((decide ((a0.size : Int) < 1)) || (decide ((a0.size : Int) > 15))) || (!r1) then (some false) else ((loopM (M.VR a0) 1).bind fun y5 => Sum.elim (fun _ => some true) (fun y7 => some y7) y5))
noncomputable def M.ZW (a0 : Int) (a1 : Int) (a2 : Int) : Option Bool :=
  some ((decide (a1 ≤ a0)) && (decide (a0 ≤ a2)))
noncomputable def M.US (p1 : Int × Int) (p3 : Int) : Option ((Int × Int) ⊕ Int) :=
  some (.inl (p3, wr .i64 (p1.2 + 1)))
noncomputable def M.WQ (a0 : Int) (p1 : Int × Int) : Option ((Int × Int) ⊕ Int) :=
  bif decide (p1.2 < 32) then (bif decide (p1.2 < a0) then (gd [decide (0 ≤ (wr .u64 (wr .i64 (31 - p1.2))))] (M.US p1 (bitD .or .u32 p1.1 (wr .u32 (1 * 2 ^ min (wr .u64 (wr .i64 (31 - p1.2))).toNat 32))))) else (M.US p1 p1.1)) else (some (.inr p1.1))
noncomputable def M.Ji (a0 : Int) : Option Int :=
  (loopM (M.WQ a0) (0, 0)).bind fun y4 => some y4
noncomputable def M.Qu (a0 : Int) (a1 : Int) : Option ZZ :=
  (M.Ji (if 0 > (if 32 < a1 then 32 else a1) then 0 else (if 32 < a1 then 32 else a1))).bind fun r1 => some (⟨bitD .and .u32 a0 r1, if 0 > (if 32 < a1 then 32 else a1) then 0 else (if 32 < a1 then 32 else a1)⟩ : ZZ)
noncomputable def M.J2 (a0 : ZZ) (a1 : Int) : Option Bool :=
  (M.Ji a0.ZV).bind fun r1 => some ((bitD .and .u32 a1 r1) == a0.Zx)
noncomputable def M.JV (a0 : ZZ) (a1 : ZZ) : Option Bool :=
  (gc (decide (a0.ZV ≤ a1.ZV)) (M.J2 a0 a1.Zx)).bind fun r1 => some ((decide (a0.ZV ≤ a1.ZV)) && r1)
noncomputable def M.Qn (a0 : ZZ) (a1 : ZZ) : Option Bool :=
  (M.JV a0 a1).bind fun r1 => (gc (!r1) (M.JV a1 a0)).bind fun r2 => some (r1 || r2)
noncomputable def M.YI (a0 : List Zl) (p1 : Int) (p4 : Int) : Option (Int ⊕ (Unit ⊕ Int)) :=
  bif decide (p4 < p1) then (gd [decide (0 ≤ p4), decide (p4 < (a0.length : Int))] (bif strEq ((a0.getD p4.toNat default).Xm) ((a0.getD p1.toNat default).Xm) then (some (.inr (.inr 4))) else (some (.inl (wr .i64 (p4 + 1)))))) else (some (.inr (.inl ())))
noncomputable def M.Yp (a0 : List Zl) (p1 : Int) (p14 : Int) : Option (Int ⊕ (Unit ⊕ Int)) :=
  bif decide (p14 < p1) then ((gc ((((a0.getD p1.toNat default).ZV) != 0) && (((a0.getD p14.toNat default).ZV) != 0)) (M.Qu ((a0.getD p1.toNat default).Zx) ((a0.getD p1.toNat default).ZV))).bind fun r16 => (gc ((((a0.getD p1.toNat default).ZV) != 0) && (((a0.getD p14.toNat default).ZV) != 0)) (M.Qu ((a0.getD p14.toNat default).Zx) ((a0.getD p14.toNat default).ZV))).bind fun r17 => (gc ((((a0.getD p1.toNat default).ZV) != 0) && (((a0.getD p14.toNat default).ZV) != 0)) (M.Qn r16 r17)).bind fun r18 => gd [guardB (((a0.getD p1.toNat default).ZV) != 0) (decide (0 ≤ p14)), guardB (((a0.getD p1.toNat default).ZV) != 0) (decide (p14 < (a0.length : Int))), guardB ((((a0.getD p1.toNat default).ZV) != 0) && (((a0.getD p14.toNat default).ZV) != 0)) (decide (0 ≤ p14)), guardB ((((a0.getD p1.toNat default).ZV) != 0) && (((a0.getD p14.toNat default).ZV) != 0)) (decide (p14 < (a0.length : Int))), guardB ((((a0.getD p1.toNat default).ZV) != 0) && (((a0.getD p14.toNat default).ZV) != 0)) (decide (0 ≤ p14)), guardB ((((a0.getD p1.toNat default).ZV) != 0) && (((a0.getD p14.toNat default).ZV) != 0)) (decide (p14 < (a0.length : Int)))] (bif ((((a0.getD p1.toNat default).ZV) != 0) && (((a0.getD p14.toNat default).ZV) != 0)) && r18 then (some (.inr (.inr 6))) else (some (.inl (wr .i64 (p14 + 1)))))) else (some (.inr (.inl ())))
noncomputable def M.Yq (a0 : List Zl) (p1 : Int) : Option (Int ⊕ (Unit ⊕ Int)) :=
  bif decide (p1 < (a0.length : Int)) then (gd [decide (0 ≤ p1), decide (p1 < (a0.length : Int))] ((M.QZ ((a0.getD p1.toNat default).Xm)).bind fun r3 => bif !r3 then (some (.inr (.inr 3))) else ((loopM (M.YI a0 p1) 0).bind fun y6 => Sum.elim (fun _ => (M.ZW ((a0.getD p1.toNat default).ZV) 0 32).bind fun r9 => (gc (!(!r9)) (M.ZW ((a0.getD p1.toNat default).XE) 0 4094)).bind fun r10 => (gc (!((!r9) || (!r10))) (M.ZW ((a0.getD p1.toNat default).RA) 0 2)).bind fun r11 => bif ((!r9) || (!r10)) || (!r11) then (some (.inr (.inr 1))) else (bif ((((a0.getD p1.toNat default).ZV) == 0) && (((((((((a0.getD p1.toNat default).Zx) != 0) || (((a0.getD p1.toNat default).XE) != 0)) || (((a0.getD p1.toNat default).RA) != 0)) || ((a0.getD p1.toNat default).Yh)) || ((a0.getD p1.toNat default).Yo)) || (!strEq ((a0.getD p1.toNat default).VQ) (⟨#[]⟩ : ByteArray))) || (!strEq ((a0.getD p1.toNat default).Qa) (⟨#[]⟩ : ByteArray)))) || ((((a0.getD p1.toNat default).ZV) != 0) && (((a0.getD p1.toNat default).Zx) == 0)) then (some (.inr (.inr 1))) else ((gc ((a0.getD p1.toNat default).Yh) (M.ZW ((a0.getD p1.toNat default).V0) 0 255)).bind fun r12 => (gc (((a0.getD p1.toNat default).Yh) && !(!r12)) (M.ZW ((a0.getD p1.toNat default).ZbN) 1 65535)).bind fun r13 => bif (((a0.getD p1.toNat default).Yh) && ((!r12) || (!r13))) || ((!((a0.getD p1.toNat default).Yh)) && ((((a0.getD p1.toNat default).V0) != 0) || (((a0.getD p1.toNat default).ZbN) != 0))) then (some (.inr (.inr 1))) else ((loopM (M.Yp a0 p1) 0).bind fun y19 => Sum.elim (fun _ => some (.inl (wr .i64 (p1 + 1)))) (fun y21 => some (.inr (.inr y21))) y19)))) (fun y8 => some (.inr (.inr y8))) y6))) else (some (.inr (.inl ())))
noncomputable def M.Yd (a0 : List Zl) : Option Int :=
  bif decide ((a0.length : Int) > 8) then (some 7) else ((loopM (M.Yq a0) 0).bind fun y22 => Sum.elim (fun _ => some 0) (fun y24 => some y24) y22)
noncomputable def M.Qb (a0 : ZZ) : Option Bool :=
  (gc ((decide (a0.ZV ≥ 0)) && (decide (a0.ZV ≤ 32))) (M.Ji a0.ZV)).bind fun r1 => some (((decide (a0.ZV ≥ 0)) && (decide (a0.ZV ≤ 32))) && ((bitD .andNot .u32 a0.Zx r1) == 0))
noncomputable def M.YW (a0 : Ue) : Option Bool :=
  (M.Qb a0.Zo).bind fun r1 => some (((r1 && (decide (a0.Zo.ZV ≤ a0.Zii))) && (decide (a0.Zii ≤ a0.Zij))) && (decide (a0.Zij ≤ 32)))
noncomputable def M.Qe (a0 : List Z2) (p1 : Int) (p4 : Int) : Option (Int ⊕ (Unit ⊕ Int)) :=
  bif decide (p4 < p1) then (gd [decide (0 ≤ p4), decide (p4 < (a0.length : Int)), decide (0 ≤ p1), decide (p1 < (a0.length : Int))] (bif strEq ((a0.getD p4.toNat default).Xm) ((a0.getD p1.toNat default).Xm) then (some (.inr (.inr 4))) else (some (.inl (wr .i64 (p4 + 1)))))) else (some (.inr (.inl ())))
noncomputable def M.Qf (a0 : List Z2) (p1 : Int) (p9 : Int) : Option (Int ⊕ (Unit ⊕ Int)) :=
  gd [decide (0 ≤ p1), decide (p1 < (a0.length : Int))] (bif decide (p9 < (((a0.getD p1.toNat default).YH).length : Int)) then ((M.YW (((a0.getD p1.toNat default).YH).getD p9.toNat default)).bind fun r11 => gd [decide (0 ≤ p1), decide (p1 < (a0.length : Int)), decide (0 ≤ p9), decide (p9 < (((a0.getD p1.toNat default).YH).length : Int))] (bif !r11 then (some (.inr (.inr 1))) else (some (.inl (wr .i64 (p9 + 1)))))) else (some (.inr (.inl ()))))
noncomputable def M.Qg (a0 : List Z2) (p1 : Int) : Option (Int ⊕ (Unit ⊕ Int)) :=
  bif decide (p1 < (a0.length : Int)) then ((M.QZ ((a0.getD p1.toNat default).Xm)).bind fun r3 => gd [decide (0 ≤ p1), decide (p1 < (a0.length : Int))] (bif !r3 then (some (.inr (.inr 3))) else ((loopM (M.Qe a0 p1) 0).bind fun y6 => Sum.elim (fun _ => gd [decide (0 ≤ p1), decide (p1 < (a0.length : Int))] (bif (((a0.getD p1.toNat default).YH).length : Int) == 0 then (some (.inr (.inr 1))) else (gd [decide (0 ≤ p1), decide (p1 < (a0.length : Int))] (bif decide ((((a0.getD p1.toNat default).YH).length : Int) > 16) then (some (.inr (.inr 7))) else ((loopM (M.Qf a0 p1) 0).bind fun y12 => Sum.elim (fun _ => some (.inl (wr .i64 (p1 + 1)))) (fun y14 => some (.inr (.inr y14))) y12))))) (fun y8 => some (.inr (.inr y8))) y6))) else (some (.inr (.inl ())))
noncomputable def M.Ql (a0 : List Z2) : Option Int :=
  bif decide ((a0.length : Int) > 8) then (some 7) else ((loopM (M.Qg a0) 0).bind fun y15 => Sum.elim (fun _ => some 0) (fun y17 => some y17) y15)
noncomputable def M.Qv (a0 : Zf) (a1 : ByteArray) (p1 : Int) : Option (Int ⊕ (Unit ⊕ Int)) :=
  bif decide (p1 < (a0.Yw.length : Int)) then (gd [decide (0 ≤ p1), decide (p1 < (a0.Yw.length : Int))] (bif strEq ((a0.Yw.getD p1.toNat default).Xm) a1 then (some (.inr (.inr p1))) else (some (.inl (wr .i64 (p1 + 1)))))) else (some (.inr (.inl ())))
noncomputable def M.YP (a0 : Zf) (a1 : ByteArray) : Option Int :=
  (loopM (M.Qv a0 a1) 0).bind fun y3 => Sum.elim (fun _ => some (-1)) (fun y5 => some y5) y3
noncomputable def M.QO (a0 : Zf) (p1 : Int) (p4 : Int) : Option (Int ⊕ (Unit ⊕ Int)) :=
  bif decide (p4 < p1) then (gd [decide (0 ≤ p4), decide (p4 < (a0.XF.length : Int)), decide (0 ≤ p1), decide (p1 < (a0.XF.length : Int))] (bif strEq ((a0.XF.getD p4.toNat default).Xm) ((a0.XF.getD p1.toNat default).Xm) then (some (.inr (.inr 4))) else (some (.inl (wr .i64 (p4 + 1)))))) else (some (.inr (.inl ())))
noncomputable def M.QP (a0 : Zf) (p1 : Int) (p9 : Int) : Option (Int ⊕ (Unit ⊕ Int)) :=
  gd [decide (0 ≤ p1), decide (p1 < (a0.XF.length : Int))] (bif decide (p9 < (((a0.XF.getD p1.toNat default).X1).length : Int)) then (gd [decide (0 ≤ p1), decide (p1 < (a0.XF.length : Int)), decide (0 ≤ p9), decide (p9 < (((a0.XF.getD p1.toNat default).X1).length : Int))] ((gc (!strEq ((((a0.XF.getD p1.toNat default).X1).getD p9.toNat default).J3) (⟨#[]⟩ : ByteArray)) (M.YP a0 ((((a0.XF.getD p1.toNat default).X1).getD p9.toNat default).J3))).bind fun r11 => bif (!strEq ((((a0.XF.getD p1.toNat default).X1).getD p9.toNat default).J3) (⟨#[]⟩ : ByteArray)) && (decide (r11 < 0)) then (some (.inr (.inr 5))) else ((M.ZW ((((a0.XF.getD p1.toNat default).X1).getD p9.toNat default).KI) (-1) 65535).bind fun r12 => (gc (!(!r12)) (M.ZW ((((a0.XF.getD p1.toNat default).X1).getD p9.toNat default).ZbP) (-1) 65535)).bind fun r13 => (gc (!((!r12) || (!r13))) (M.ZW ((((a0.XF.getD p1.toNat default).X1).getD p9.toNat default).GC) (-1) 16777215)).bind fun r14 => (gc (!(((!r12) || (!r13)) || (!r14))) (M.ZW ((((a0.XF.getD p1.toNat default).X1).getD p9.toNat default).RB) (-1) 1000000)).bind fun r15 => (gc (!((((!r12) || (!r13)) || (!r14)) || (!r15))) (M.ZW ((((a0.XF.getD p1.toNat default).X1).getD p9.toNat default).RC) 0 8)).bind fun r16 => bif ((((!r12) || (!r13)) || (!r14)) || (!r15)) || (!r16) then (some (.inr (.inr 1))) else (some (.inl (wr .i64 (p9 + 1))))))) else (some (.inr (.inl ()))))
noncomputable def M.QQ (a0 : Zf) (p1 : Int) : Option (Int ⊕ (Unit ⊕ Int)) :=
  bif decide (p1 < (a0.XF.length : Int)) then ((M.QZ ((a0.XF.getD p1.toNat default).Xm)).bind fun r3 => gd [decide (0 ≤ p1), decide (p1 < (a0.XF.length : Int))] (bif !r3 then (some (.inr (.inr 3))) else ((loopM (M.QO a0 p1) 0).bind fun y6 => Sum.elim (fun _ => gd [decide (0 ≤ p1), decide (p1 < (a0.XF.length : Int))] (bif (((a0.XF.getD p1.toNat default).X1).length : Int) == 0 then (some (.inr (.inr 1))) else (gd [decide (0 ≤ p1), decide (p1 < (a0.XF.length : Int))] (bif decide ((((a0.XF.getD p1.toNat default).X1).length : Int) > 8) then (some (.inr (.inr 7))) else ((loopM (M.QP a0 p1) 0).bind fun y17 => Sum.elim (fun _ => some (.inl (wr .i64 (p1 + 1)))) (fun y19 => some (.inr (.inr y19))) y17))))) (fun y8 => some (.inr (.inr y8))) y6))) else (some (.inr (.inl ())))
noncomputable def M.Q1 (a0 : Zf) : Option Int :=
  bif decide ((a0.XF.length : Int) > 8) then (some 7) else ((loopM (M.QQ a0) 0).bind fun y20 => Sum.elim (fun _ => some 0) (fun y22 => some y22) y20)
noncomputable def M.V2 (a0 : VI) : Option Bool :=
  some (((decide (0 ≤ a0.Kq)) && (decide (a0.Kq ≤ a0.K7))) && (decide (a0.K7 ≤ 65535)))
noncomputable def M.Uf (a0 : VI) : Option Bool :=
  some ((a0.Kq == 0) && ((a0.K7 == 65535) && true))
noncomputable def M.J7 (a0 : Zen) : Option Bool :=
  (M.ZW a0.YS (-1) 255).bind fun r1 => (gc (!(((!r1) || ((bitD .and .u32 a0.Za3.Zx a0.Za3.Gq) != 0)) || ((bitD .and .u32 a0.Za4.Zx a0.Za4.Gq) != 0))) (M.V2 a0.Uk)).bind fun r2 => (gc (!((((!r1) || ((bitD .and .u32 a0.Za3.Zx a0.Za3.Gq) != 0)) || ((bitD .and .u32 a0.Za4.Zx a0.Za4.Gq) != 0)) || (!r2))) (M.V2 a0.Ul)).bind fun r3 => bif ((((!r1) || ((bitD .and .u32 a0.Za3.Zx a0.Za3.Gq) != 0)) || ((bitD .and .u32 a0.Za4.Zx a0.Za4.Gq) != 0)) || (!r2)) || (!r3) then (some false) else ((gc (!((a0.YS == 6) || (a0.YS == 17))) (M.Uf a0.Uk)).bind fun r4 => (gc ((!((a0.YS == 6) || (a0.YS == 17))) && r4) (M.Uf a0.Ul)).bind fun r5 => some (((a0.YS == 6) || (a0.YS == 17)) || (r4 && r5)))
noncomputable def M.Qh (a0 : List W3) (p1 : Int) (p4 : Int) : Option (Int ⊕ (Unit ⊕ Int)) :=
  bif decide (p4 < p1) then (gd [decide (0 ≤ p4), decide (p4 < (a0.length : Int)), decide (0 ≤ p1), decide (p1 < (a0.length : Int))] (bif strEq ((a0.getD p4.toNat default).Xm) ((a0.getD p1.toNat default).Xm) then (some (.inr (.inr 4))) else (some (.inl (wr .i64 (p4 + 1)))))) else (some (.inr (.inl ())))
noncomputable def M.Qi (a0 : List W3) (p1 : Int) (p9 : Int) : Option (Int ⊕ (Unit ⊕ Int)) :=
  gd [decide (0 ≤ p1), decide (p1 < (a0.length : Int))] (bif decide (p9 < (((a0.getD p1.toNat default).YH).length : Int)) then ((M.J7 (((a0.getD p1.toNat default).YH).getD p9.toNat default)).bind fun r11 => gd [decide (0 ≤ p1), decide (p1 < (a0.length : Int)), decide (0 ≤ p9), decide (p9 < (((a0.getD p1.toNat default).YH).length : Int))] (bif !r11 then (some (.inr (.inr 1))) else (some (.inl (wr .i64 (p9 + 1)))))) else (some (.inr (.inl ()))))
noncomputable def M.Qj (a0 : List W3) (p1 : Int) : Option (Int ⊕ (Unit ⊕ Int)) :=
  bif decide (p1 < (a0.length : Int)) then ((M.QZ ((a0.getD p1.toNat default).Xm)).bind fun r3 => gd [decide (0 ≤ p1), decide (p1 < (a0.length : Int))] (bif !r3 then (some (.inr (.inr 3))) else ((loopM (M.Qh a0 p1) 0).bind fun y6 => Sum.elim (fun _ => gd [decide (0 ≤ p1), decide (p1 < (a0.length : Int))] (bif (((a0.getD p1.toNat default).YH).length : Int) == 0 then (some (.inr (.inr 1))) else (gd [decide (0 ≤ p1), decide (p1 < (a0.length : Int))] (bif decide ((((a0.getD p1.toNat default).YH).length : Int) > 16) then (some (.inr (.inr 7))) else ((loopM (M.Qi a0 p1) 0).bind fun y12 => Sum.elim (fun _ => some (.inl (wr .i64 (p1 + 1)))) (fun y14 => some (.inr (.inr y14))) y12))))) (fun y8 => some (.inr (.inr y8))) y6))) else (some (.inr (.inl ())))
noncomputable def M.Qm (a0 : List W3) : Option Int :=
  bif decide ((a0.length : Int) > 8) then (some 7) else ((loopM (M.Qj a0) 0).bind fun y15 => Sum.elim (fun _ => some 0) (fun y17 => some y17) y15)
noncomputable def M.We (a0 : Zf) (a1 : ByteArray) (p1 : Int) : Option (Int ⊕ (Unit ⊕ Int)) :=
  bif decide (p1 < (a0.YF.length : Int)) then (gd [decide (0 ≤ p1), decide (p1 < (a0.YF.length : Int))] (bif strEq ((a0.YF.getD p1.toNat default).Xm) a1 then (some (.inr (.inr p1))) else (some (.inl (wr .i64 (p1 + 1)))))) else (some (.inr (.inl ())))
noncomputable def M.Wx (a0 : Zf) (a1 : ByteArray) : Option Int :=
  (loopM (M.We a0 a1) 0).bind fun y3 => Sum.elim (fun _ => some (-1)) (fun y5 => some y5) y3
noncomputable def M.XW (a0 : Zf) (p1 : Int) (p3 : Bool) : Option (Int ⊕ (Unit ⊕ Int)) :=
  bif !p3 then (some (.inr (.inr 1))) else ((gc (((a0.Xc.getD p1.toNat default).Wr) == 2) (M.Wx a0 ((a0.Xc.getD p1.toNat default).J3))).bind fun r4 => bif (((a0.Xc.getD p1.toNat default).Wr) == 2) && (decide (r4 < 0)) then (some (.inr (.inr 5))) else (some (.inl (wr .i64 (p1 + 1)))))
noncomputable def M.YX (a0 : Zf) (p1 : Int) : Option (Int ⊕ (Unit ⊕ Int)) :=
  bif decide (p1 < (a0.Xc.length : Int)) then (gd [decide (0 ≤ p1), decide (p1 < (a0.Xc.length : Int))] (bif ((a0.Xc.getD p1.toNat default).Wr) == 1 then (M.XW a0 p1 (((((a0.Xc.getD p1.toNat default).JD) != 0) && (((a0.Xc.getD p1.toNat default).QC) != 0)) && ((((a0.Xc.getD p1.toNat default).Wr) == ((a0.Xc.getD p1.toNat default).Wr)) && ((((a0.Xc.getD p1.toNat default).JD) == ((a0.Xc.getD p1.toNat default).JD)) && ((((a0.Xc.getD p1.toNat default).QC) == ((a0.Xc.getD p1.toNat default).QC)) && ((((a0.Xc.getD p1.toNat default).YS) == 0) && ((((a0.Xc.getD p1.toNat default).JT) == 0) && ((((a0.Xc.getD p1.toNat default).Jh) == 0) && (strEq ((a0.Xc.getD p1.toNat default).J3) (⟨#[]⟩ : ByteArray) && ((((a0.Xc.getD p1.toNat default).Kq) == 0) && ((((a0.Xc.getD p1.toNat default).K7) == 0) && true))))))))))) else (bif ((a0.Xc.getD p1.toNat default).Wr) == 2 then (M.XW a0 p1 ((((((a0.Xc.getD p1.toNat default).Kq) != 0) && (decide (((a0.Xc.getD p1.toNat default).Kq) ≤ ((a0.Xc.getD p1.toNat default).K7)))) && (decide ((wr .u32 (((a0.Xc.getD p1.toNat default).K7) - ((a0.Xc.getD p1.toNat default).Kq))) < 8))) && ((((a0.Xc.getD p1.toNat default).Wr) == ((a0.Xc.getD p1.toNat default).Wr)) && ((((a0.Xc.getD p1.toNat default).JD) == 0) && ((((a0.Xc.getD p1.toNat default).QC) == 0) && ((((a0.Xc.getD p1.toNat default).YS) == 0) && ((((a0.Xc.getD p1.toNat default).JT) == 0) && ((((a0.Xc.getD p1.toNat default).Jh) == 0) && (strEq ((a0.Xc.getD p1.toNat default).J3) ((a0.Xc.getD p1.toNat default).J3) && ((((a0.Xc.getD p1.toNat default).Kq) == ((a0.Xc.getD p1.toNat default).Kq)) && ((((a0.Xc.getD p1.toNat default).K7) == ((a0.Xc.getD p1.toNat default).K7)) && true))))))))))) else (bif ((a0.Xc.getD p1.toNat default).Wr) == 3 then ((gc (((((a0.Xc.getD p1.toNat default).JD) != 0) && (((a0.Xc.getD p1.toNat default).QC) != 0)) && ((((a0.Xc.getD p1.toNat default).YS) == 6) || (((a0.Xc.getD p1.toNat default).YS) == 17))) (M.ZW ((a0.Xc.getD p1.toNat default).JT) 0 65535)).bind fun r5 => (gc ((((((a0.Xc.getD p1.toNat default).JD) != 0) && (((a0.Xc.getD p1.toNat default).QC) != 0)) && ((((a0.Xc.getD p1.toNat default).YS) == 6) || (((a0.Xc.getD p1.toNat default).YS) == 17))) && r5) (M.ZW ((a0.Xc.getD p1.toNat default).Jh) 0 65535)).bind fun r6 => M.XW a0 p1 ((((((((((a0.Xc.getD p1.toNat default).JD) != 0) && (((a0.Xc.getD p1.toNat default).QC) != 0)) && ((((a0.Xc.getD p1.toNat default).YS) == 6) || (((a0.Xc.getD p1.toNat default).YS) == 17))) && r5) && r6) && (strEq ((a0.Xc.getD p1.toNat default).J3) (⟨#[]⟩ : ByteArray))) && (((a0.Xc.getD p1.toNat default).Kq) == 0)) && (((a0.Xc.getD p1.toNat default).K7) == 0))) else (M.XW a0 p1 false))))) else (some (.inr (.inl ())))
noncomputable def M.YY (a0 : Zf) : Option Int :=
  bif decide ((a0.Xc.length : Int) > 8) then (some 7) else ((loopM (M.YX a0) 0).bind fun y7 => Sum.elim (fun _ => some 0) (fun y9 => some y9) y7)
noncomputable def M.JE (a0 : Zf) (p1 : Int) : Option (Int ⊕ (Unit ⊕ Int)) :=
  bif decide (p1 < (a0.Zc.length : Int)) then (gd [decide (0 ≤ p1), decide (p1 < (a0.Zc.length : Int))] ((gc (!strEq ((a0.Zc.getD p1.toNat default).VQ) (⟨#[]⟩ : ByteArray)) (M.Wx a0 ((a0.Zc.getD p1.toNat default).VQ))).bind fun r3 => (gc ((!((!strEq ((a0.Zc.getD p1.toNat default).VQ) (⟨#[]⟩ : ByteArray)) && (decide (r3 < 0)))) && (!strEq ((a0.Zc.getD p1.toNat default).Qa) (⟨#[]⟩ : ByteArray))) (M.Wx a0 ((a0.Zc.getD p1.toNat default).Qa))).bind fun r4 => bif ((!strEq ((a0.Zc.getD p1.toNat default).VQ) (⟨#[]⟩ : ByteArray)) && (decide (r3 < 0))) || ((!strEq ((a0.Zc.getD p1.toNat default).Qa) (⟨#[]⟩ : ByteArray)) && (decide (r4 < 0))) then (some (.inr (.inr 5))) else (some (.inl (wr .i64 (p1 + 1)))))) else (some (.inr (.inl ())))
noncomputable def M.J8 (a0 : Zf) : Option Int :=
  (loopM (M.JE a0) 0).bind fun y5 => Sum.elim (fun _ => some 0) (fun y7 => some y7) y5
noncomputable def M.JF (a0 : Zf) (a1 : Int) (p1 : Int) : Option (Int ⊕ (Unit ⊕ Int)) :=
  bif decide (p1 < (a0.Zc.length : Int)) then (gd [decide (0 ≤ p1), decide (p1 < (a0.Zc.length : Int)), guardB (((a0.Zc.getD p1.toNat default).ZV) != 0) (decide (0 ≤ p1)), guardB (((a0.Zc.getD p1.toNat default).ZV) != 0) (decide (p1 < (a0.Zc.length : Int)))] (bif (((a0.Zc.getD p1.toNat default).ZV) != 0) && (((a0.Zc.getD p1.toNat default).Zx) == a1) then (some (.inr (.inr p1))) else (some (.inl (wr .i64 (p1 + 1)))))) else (some (.inr (.inl ())))
noncomputable def M.JG (a0 : Zf) (a1 : Int) : Option Int :=
  (loopM (M.JF a0 a1) 0).bind fun y3 => Sum.elim (fun _ => some (-1)) (fun y5 => some y5) y3
noncomputable def M.Qo (a0 : Zf) (a1 : ByteArray) (p1 : Int) : Option (Int ⊕ (Unit ⊕ Int)) :=
  bif decide (p1 < (a0.Zc.length : Int)) then (gd [decide (0 ≤ p1), decide (p1 < (a0.Zc.length : Int))] (bif strEq ((a0.Zc.getD p1.toNat default).Xm) a1 then (some (.inr (.inr p1))) else (some (.inl (wr .i64 (p1 + 1)))))) else (some (.inr (.inl ())))
noncomputable def M.Q2 (a0 : Zf) (a1 : ByteArray) : Option Int :=
  (loopM (M.Qo a0 a1) 0).bind fun y3 => Sum.elim (fun _ => some (-1)) (fun y5 => some y5) y3
noncomputable def M.JH (a0 : Zf) (p1 : Int) (p11 : Int) : Option (Int ⊕ (Unit ⊕ Int)) :=
  bif decide (p11 < p1) then (gd [decide (0 ≤ p11), decide (p11 < (a0.Zr.length : Int)), guardB (((((a0.Zr.getD p11.toNat default).Zo).Zx) == (((a0.Zr.getD p1.toNat default).Zo).Zx)) && (((((a0.Zr.getD p11.toNat default).Zo).ZV) == (((a0.Zr.getD p1.toNat default).Zo).ZV)) && true)) (decide (0 ≤ p11)), guardB (((((a0.Zr.getD p11.toNat default).Zo).Zx) == (((a0.Zr.getD p1.toNat default).Zo).Zx)) && (((((a0.Zr.getD p11.toNat default).Zo).ZV) == (((a0.Zr.getD p1.toNat default).Zo).ZV)) && true)) (decide (p11 < (a0.Zr.length : Int)))] (bif (((((a0.Zr.getD p11.toNat default).Zo).Zx) == (((a0.Zr.getD p1.toNat default).Zo).Zx)) && (((((a0.Zr.getD p11.toNat default).Zo).ZV) == (((a0.Zr.getD p1.toNat default).Zo).ZV)) && true)) && (((a0.Zr.getD p11.toNat default).Xr) == ((a0.Zr.getD p1.toNat default).Xr)) then (some (.inr (.inr 6))) else (some (.inl (wr .i64 (p11 + 1)))))) else (some (.inr (.inl ())))
noncomputable def M.QD (a0 : Zf) (p1 : Int) (_p10 : Unit) : Option (Int ⊕ (Unit ⊕ Int)) :=
  (loopM (M.JH a0 p1) 0).bind fun y13 => Sum.elim (fun _ => some (.inl (wr .i64 (p1 + 1)))) (fun y15 => some (.inr (.inr y15))) y13
noncomputable def M.QE (a0 : Zf) (p1 : Int) (p5 : Int) : Option (Int ⊕ (Unit ⊕ Int)) :=
  (M.Qb ((a0.Zr.getD p1.toNat default).Zo)).bind fun r6 => (gc ((!((!r6) || (p5 != 1))) && (((a0.Zr.getD p1.toNat default).UR) != 0)) (M.JG a0 ((a0.Zr.getD p1.toNat default).UR))).bind fun r7 => (gc (!(((!r6) || (p5 != 1)) || ((((a0.Zr.getD p1.toNat default).UR) != 0) && (decide (r7 ≥ 0))))) (M.ZW ((a0.Zr.getD p1.toNat default).Xr) 1 255)).bind fun r8 => (gc (!((((!r6) || (p5 != 1)) || ((((a0.Zr.getD p1.toNat default).UR) != 0) && (decide (r7 ≥ 0)))) || (!r8))) (M.ZW ((a0.Zr.getD p1.toNat default).KI) 0 65535)).bind fun r9 => bif ((((!r6) || (p5 != 1)) || ((((a0.Zr.getD p1.toNat default).UR) != 0) && (decide (r7 ≥ 0)))) || (!r8)) || (!r9) then (some (.inr (.inr 1))) else (bif !strEq ((a0.Zr.getD p1.toNat default).XY) (⟨#[]⟩ : ByteArray) then ((M.Q2 a0 ((a0.Zr.getD p1.toNat default).XY)).bind fun r16 => bif decide (r16 < 0) then (some (.inr (.inr 5))) else (gd [decide (0 ≤ r16), decide (r16 < (a0.Zc.length : Int))] (bif ((a0.Zc.getD r16.toNat default).ZV) == 0 then (some (.inr (.inr 1))) else (M.QD a0 p1 ())))) else (M.QD a0 p1 ()))
noncomputable def M.QF (a0 : Zf) (p1 : Int) (p4 : Int) : Option (Int ⊕ (Unit ⊕ Int)) :=
  bif (a0.Zr.getD p1.toNat default).Zeo then (M.QE a0 p1 (wr .i64 (p4 + 1))) else (M.QE a0 p1 p4)
noncomputable def M.QG (a0 : Zf) (p1 : Int) (p3 : Int) : Option (Int ⊕ (Unit ⊕ Int)) :=
  bif !strEq ((a0.Zr.getD p1.toNat default).XY) (⟨#[]⟩ : ByteArray) then (M.QF a0 p1 (wr .i64 (p3 + 1))) else (M.QF a0 p1 p3)
noncomputable def M.JI (a0 : Zf) (p1 : Int) : Option (Int ⊕ (Unit ⊕ Int)) :=
  bif decide (p1 < (a0.Zr.length : Int)) then (gd [decide (0 ≤ p1), decide (p1 < (a0.Zr.length : Int))] (bif ((a0.Zr.getD p1.toNat default).UR) != 0 then (M.QG a0 p1 1) else (M.QG a0 p1 0))) else (some (.inr (.inl ())))
noncomputable def M.J9 (a0 : Zf) : Option Int :=
  bif decide ((a0.Zr.length : Int) > 16) then (some 7) else ((loopM (M.JI a0) 0).bind fun y17 => Sum.elim (fun _ => some 0) (fun y19 => some y19) y17)
noncomputable def M.Jj (a0 : Zf) (a1 : ByteArray) (p1 : Int) : Option (Int ⊕ (Unit ⊕ Int)) :=
  bif decide (p1 < (a0.XF.length : Int)) then (gd [decide (0 ≤ p1), decide (p1 < (a0.XF.length : Int))] (bif strEq ((a0.XF.getD p1.toNat default).Xm) a1 then (some (.inr (.inr p1))) else (some (.inl (wr .i64 (p1 + 1)))))) else (some (.inr (.inl ())))
noncomputable def M.QJ (a0 : Zf) (a1 : ByteArray) : Option Int :=
  (loopM (M.Jj a0 a1) 0).bind fun y3 => Sum.elim (fun _ => some (-1)) (fun y5 => some y5) y3
noncomputable def M.Yl (a1 : List YK) (p1 : Int) (p7 : Int) : Option (Int ⊕ (Unit ⊕ Int)) :=
  bif decide (p7 < p1) then (gd [decide (0 ≤ p7), decide (p7 < (a1.length : Int))] (bif ((a1.getD p7.toNat default).GD) == ((a1.getD p1.toNat default).GD) then (some (.inr (.inr 4))) else (some (.inl (wr .i64 (p7 + 1)))))) else (some (.inr (.inl ())))
noncomputable def M.Ym (a0 : Zf) (a1 : List YK) (a2 : Int) (a3 : Int) (a4 : Int) (p1 : Int) : Option (Int ⊕ (Unit ⊕ Int)) :=
  bif decide (p1 < (a1.length : Int)) then (gd [decide (0 ≤ p1), decide (p1 < (a1.length : Int))] ((M.ZW ((a1.getD p1.toNat default).GD) 1 5).bind fun r3 => (gc (!((!r3) || (((a1.getD p1.toNat default).GD) == a2))) (M.ZW ((a1.getD p1.toNat default).ZbQ) a3 a4)).bind fun r4 => (gc (!(((!r3) || (((a1.getD p1.toNat default).GD) == a2)) || (!r4))) (M.ZW ((a1.getD p1.toNat default).KI) 0 65535)).bind fun r5 => bif (((!r3) || (((a1.getD p1.toNat default).GD) == a2)) || (!r4)) || (!r5) then (some (.inr (.inr 1))) else (bif (((a2 == 3) && (((a1.getD p1.toNat default).Zc4) != 1)) && (((a1.getD p1.toNat default).Zc4) != 2)) || ((a2 != 3) && (((a1.getD p1.toNat default).Zc4) != 0)) then (some (.inr (.inr 1))) else ((gc (!strEq ((a1.getD p1.toNat default).ZcA) (⟨#[]⟩ : ByteArray)) (M.QJ a0 ((a1.getD p1.toNat default).ZcA))).bind fun r6 => bif (!strEq ((a1.getD p1.toNat default).ZcA) (⟨#[]⟩ : ByteArray)) && (decide (r6 < 0)) then (some (.inr (.inr 5))) else ((loopM (M.Yl a1 p1) 0).bind fun y9 => Sum.elim (fun _ => some (.inl (wr .i64 (p1 + 1)))) (fun y11 => some (.inr (.inr y11))) y9))))) else (some (.inr (.inl ())))
noncomputable def M.X4 (a0 : Zf) (a1 : List YK) (a2 : Int) (a3 : Int) (a4 : Int) : Option Int :=
  bif decide ((a1.length : Int) > 4) then (some 7) else ((loopM (M.Ym a0 a1 a2 a3 a4) 0).bind fun y12 => Sum.elim (fun _ => some 0) (fun y14 => some y14) y12)
noncomputable def M.QR (a0 : Zf) (p2 : Int) (p6 : Int) : Option (Int ⊕ (Unit ⊕ Int)) :=
  bif decide (p6 < p2) then ((gc (((a0.Yh.Z6.getD p6.toNat default).V0) == ((a0.Yh.Z6.getD p2.toNat default).V0)) (M.Qn ((a0.Yh.Z6.getD p6.toNat default).Zo) ((a0.Yh.Z6.getD p2.toNat default).Zo))).bind fun r8 => gd [decide (0 ≤ p6), decide (p6 < (a0.Yh.Z6.length : Int)), decide (0 ≤ p2), decide (p2 < (a0.Yh.Z6.length : Int)), guardB (((a0.Yh.Z6.getD p6.toNat default).V0) == ((a0.Yh.Z6.getD p2.toNat default).V0)) (decide (0 ≤ p6)), guardB (((a0.Yh.Z6.getD p6.toNat default).V0) == ((a0.Yh.Z6.getD p2.toNat default).V0)) (decide (p6 < (a0.Yh.Z6.length : Int))), guardB (((a0.Yh.Z6.getD p6.toNat default).V0) == ((a0.Yh.Z6.getD p2.toNat default).V0)) (decide (0 ≤ p2)), guardB (((a0.Yh.Z6.getD p6.toNat default).V0) == ((a0.Yh.Z6.getD p2.toNat default).V0)) (decide (p2 < (a0.Yh.Z6.length : Int)))] (bif (((a0.Yh.Z6.getD p6.toNat default).V0) == ((a0.Yh.Z6.getD p2.toNat default).V0)) && r8 then (some (.inr (.inr 6))) else (some (.inl (wr .i64 (p6 + 1)))))) else (some (.inr (.inl ())))
noncomputable def M.QS (a0 : Zf) (p2 : Int) : Option (Int ⊕ (Unit ⊕ Int)) :=
  bif decide (p2 < (a0.Yh.Z6.length : Int)) then ((M.ZW ((a0.Yh.Z6.getD p2.toNat default).V0) 0 255).bind fun r4 => (gc (!(!r4)) (M.Qb ((a0.Yh.Z6.getD p2.toNat default).Zo))).bind fun r5 => gd [decide (0 ≤ p2), decide (p2 < (a0.Yh.Z6.length : Int)), guardB (!(!r4)) (decide (0 ≤ p2)), guardB (!(!r4)) (decide (p2 < (a0.Yh.Z6.length : Int)))] (bif (!r4) || (!r5) then (some (.inr (.inr 1))) else ((loopM (M.QR a0 p2) 0).bind fun y9 => Sum.elim (fun _ => some (.inl (wr .i64 (p2 + 1)))) (fun y11 => some (.inr (.inr y11))) y9))) else (some (.inr (.inl ())))
noncomputable def M.Q3 (a0 : Zf) : Option Int :=
  bif !a0.Yh.Vw then (bif ((a0.Yh.Xr != 0) || (decide ((a0.Yh.Z6.length : Int) > 0))) || (decide ((a0.Yh.Zs.length : Int) > 0)) then (some 1) else (some 0)) else ((M.ZW a0.Yh.Xr 1 255).bind fun r1 => bif !r1 then (some 1) else (bif decide ((a0.Yh.Z6.length : Int) > 4) then (some 7) else ((loopM (M.QS a0) 0).bind fun y12 => Sum.elim (fun _ => (M.X4 a0 a0.Yh.Zs 3 0 16777215).bind fun r15 => some r15) (fun y14 => some y14) y12)))
noncomputable def M.Jx (a0 : Zf) : Option Int :=
  bif !a0.Yo.Vw then (bif (((a0.Yo.Xr != 0) || (!strEq a0.Yo.VQ (⟨#[]⟩ : ByteArray))) || (!strEq a0.Yo.Qa (⟨#[]⟩ : ByteArray))) || (decide ((a0.Yo.Zs.length : Int) > 0)) then (some 1) else (some 0)) else ((M.ZW a0.Yo.Xr 1 255).bind fun r1 => bif !r1 then (some 1) else ((gc (!strEq a0.Yo.VQ (⟨#[]⟩ : ByteArray)) (M.YP a0 a0.Yo.VQ)).bind fun r2 => (gc ((!((!strEq a0.Yo.VQ (⟨#[]⟩ : ByteArray)) && (decide (r2 < 0)))) && (!strEq a0.Yo.Qa (⟨#[]⟩ : ByteArray))) (M.YP a0 a0.Yo.Qa)).bind fun r3 => bif ((!strEq a0.Yo.VQ (⟨#[]⟩ : ByteArray)) && (decide (r2 < 0))) || ((!strEq a0.Yo.Qa (⟨#[]⟩ : ByteArray)) && (decide (r3 < 0))) then (some 5) else ((M.X4 a0 a0.Yo.Zs 4 1 15).bind fun r4 => some r4)))
noncomputable def M.QT (a0 : Zf) (p1 : Int) (p6 : Int) : Option (Int ⊕ (Unit ⊕ Int)) :=
  bif decide (p6 < p1) then (gd [decide (0 ≤ p6), decide (p6 < (a0.Xs.Zm.length : Int)), decide (0 ≤ p1), decide (p1 < (a0.Xs.Zm.length : Int))] (bif ((a0.Xs.Zm.getD p6.toNat default).Zx) == ((a0.Xs.Zm.getD p1.toNat default).Zx) then (some (.inr (.inr 4))) else (some (.inl (wr .i64 (p6 + 1)))))) else (some (.inr (.inl ())))
noncomputable def M.QU (a0 : Zf) (p1 : Int) : Option (Int ⊕ (Unit ⊕ Int)) :=
  bif decide (p1 < (a0.Xs.Zm.length : Int)) then ((gc (!(((a0.Xs.Zm.getD p1.toNat default).Zx) == 0)) (M.ZW ((a0.Xs.Zm.getD p1.toNat default).Gt) 1 65535)).bind fun r3 => gd [decide (0 ≤ p1), decide (p1 < (a0.Xs.Zm.length : Int)), guardB (!(((a0.Xs.Zm.getD p1.toNat default).Zx) == 0)) (decide (0 ≤ p1)), guardB (!(((a0.Xs.Zm.getD p1.toNat default).Zx) == 0)) (decide (p1 < (a0.Xs.Zm.length : Int)))] (bif (((a0.Xs.Zm.getD p1.toNat default).Zx) == 0) || (!r3) then (some (.inr (.inr 1))) else ((gc (!strEq ((a0.Xs.Zm.getD p1.toNat default).VQ) (⟨#[]⟩ : ByteArray)) (M.QJ a0 ((a0.Xs.Zm.getD p1.toNat default).VQ))).bind fun r4 => (gc ((!((!strEq ((a0.Xs.Zm.getD p1.toNat default).VQ) (⟨#[]⟩ : ByteArray)) && (decide (r4 < 0)))) && (!strEq ((a0.Xs.Zm.getD p1.toNat default).Qa) (⟨#[]⟩ : ByteArray))) (M.QJ a0 ((a0.Xs.Zm.getD p1.toNat default).Qa))).bind fun r5 => gd [decide (0 ≤ p1), decide (p1 < (a0.Xs.Zm.length : Int)), guardB (!strEq ((a0.Xs.Zm.getD p1.toNat default).VQ) (⟨#[]⟩ : ByteArray)) (decide (0 ≤ p1)), guardB (!strEq ((a0.Xs.Zm.getD p1.toNat default).VQ) (⟨#[]⟩ : ByteArray)) (decide (p1 < (a0.Xs.Zm.length : Int))), guardB (!((!strEq ((a0.Xs.Zm.getD p1.toNat default).VQ) (⟨#[]⟩ : ByteArray)) && (decide (r4 < 0)))) (decide (0 ≤ p1)), guardB (!((!strEq ((a0.Xs.Zm.getD p1.toNat default).VQ) (⟨#[]⟩ : ByteArray)) && (decide (r4 < 0)))) (decide (p1 < (a0.Xs.Zm.length : Int))), guardB ((!((!strEq ((a0.Xs.Zm.getD p1.toNat default).VQ) (⟨#[]⟩ : ByteArray)) && (decide (r4 < 0)))) && (!strEq ((a0.Xs.Zm.getD p1.toNat default).Qa) (⟨#[]⟩ : ByteArray))) (decide (0 ≤ p1)), guardB ((!((!strEq ((a0.Xs.Zm.getD p1.toNat default).VQ) (⟨#[]⟩ : ByteArray)) && (decide (r4 < 0)))) && (!strEq ((a0.Xs.Zm.getD p1.toNat default).Qa) (⟨#[]⟩ : ByteArray))) (decide (p1 < (a0.Xs.Zm.length : Int)))] (bif ((!strEq ((a0.Xs.Zm.getD p1.toNat default).VQ) (⟨#[]⟩ : ByteArray)) && (decide (r4 < 0))) || ((!strEq ((a0.Xs.Zm.getD p1.toNat default).Qa) (⟨#[]⟩ : ByteArray)) && (decide (r5 < 0))) then (some (.inr (.inr 5))) else ((loopM (M.QT a0 p1) 0).bind fun y8 => Sum.elim (fun _ => some (.inl (wr .i64 (p1 + 1)))) (fun y10 => some (.inr (.inr y10))) y8))))) else (some (.inr (.inl ())))
noncomputable def M.Va (a0 : Zf) : Option Int :=
  bif decide ((a0.Xs.Zm.length : Int) > 8) then (some 7) else ((loopM (M.QU a0) 0).bind fun y11 => Sum.elim (fun _ => some 0) (fun y13 => some y13) y11)
noncomputable def M.YZ (a0 : Xy) (p1 : Int) (p4 : Int) : Option (Int ⊕ (Unit ⊕ Int)) :=
  bif decide (p4 < p1) then (gd [decide (0 ≤ p4), decide (p4 < (a0.Z1.length : Int)), decide (0 ≤ p1), decide (p1 < (a0.Z1.length : Int))] (bif ((((a0.Z1.getD p4.toNat default).Zx) == ((a0.Z1.getD p1.toNat default).Zx)) && ((((a0.Z1.getD p4.toNat default).ZV) == ((a0.Z1.getD p1.toNat default).ZV)) && true)) then (some (.inr (.inr 4))) else (some (.inl (wr .i64 (p4 + 1)))))) else (some (.inr (.inl ())))
noncomputable def M.Y0 (a0 : Xy) (p1 : Int) : Option (Int ⊕ (Unit ⊕ Int)) :=
  bif decide (p1 < (a0.Z1.length : Int)) then ((M.Qb (a0.Z1.getD p1.toNat default)).bind fun r3 => gd [decide (0 ≤ p1), decide (p1 < (a0.Z1.length : Int))] (bif !r3 then (some (.inr (.inr 1))) else ((loopM (M.YZ a0 p1) 0).bind fun y6 => Sum.elim (fun _ => some (.inl (wr .i64 (p1 + 1)))) (fun y8 => some (.inr (.inr y8))) y6))) else (some (.inr (.inl ())))
noncomputable def M.Y1 (a0 : Xy) (p12 : Int) (p15 : Int) : Option (Int ⊕ (Unit ⊕ Int)) :=
  bif decide (p15 < p12) then (gd [decide (0 ≤ p15), decide (p15 < (a0.ZE.length : Int)), decide (0 ≤ p12), decide (p12 < (a0.ZE.length : Int))] (bif (((((a0.ZE.getD p15.toNat default).Zo).Zx) == (((a0.ZE.getD p12.toNat default).Zo).Zx)) && (((((a0.ZE.getD p15.toNat default).Zo).ZV) == (((a0.ZE.getD p12.toNat default).Zo).ZV)) && true)) then (some (.inr (.inr 4))) else (some (.inl (wr .i64 (p15 + 1)))))) else (some (.inr (.inl ())))
noncomputable def M.Y2 (a0 : Xy) (p12 : Int) : Option (Int ⊕ (Unit ⊕ Int)) :=
  bif decide (p12 < (a0.ZE.length : Int)) then ((M.Qb ((a0.ZE.getD p12.toNat default).Zo)).bind fun r14 => gd [decide (0 ≤ p12), decide (p12 < (a0.ZE.length : Int))] (bif !r14 then (some (.inr (.inr 1))) else ((loopM (M.Y1 a0 p12) 0).bind fun y17 => Sum.elim (fun _ => some (.inl (wr .i64 (p12 + 1)))) (fun y19 => some (.inr (.inr y19))) y17))) else (some (.inr (.inl ())))
noncomputable def M.Y3 (a0 : Xy) (p23 : Int) (p27 : Int) : Option (Int ⊕ (Unit ⊕ Int)) :=
  bif decide (p27 < p23) then (gd [decide (0 ≤ p27), decide (p27 < (a0.Zt.length : Int))] (bif (((((a0.Zt.getD p27.toNat default).Zo).Zx) == (((a0.Zt.getD p23.toNat default).Zo).Zx)) && (((((a0.Zt.getD p27.toNat default).Zo).ZV) == (((a0.Zt.getD p23.toNat default).Zo).ZV)) && true)) then (some (.inr (.inr 4))) else (some (.inl (wr .i64 (p27 + 1)))))) else (some (.inr (.inl ())))
noncomputable def M.Y4 (a0 : Xy) (p23 : Int) : Option (Int ⊕ (Unit ⊕ Int)) :=
  bif decide (p23 < (a0.Zt.length : Int)) then (gd [decide (0 ≤ p23), decide (p23 < (a0.Zt.length : Int))] ((M.Qb ((a0.Zt.getD p23.toNat default).Zo)).bind fun r25 => (gc (!(!r25)) (M.Qb ((a0.Zt.getD p23.toNat default).fIf))).bind fun r26 => bif (!r25) || (!r26) then (some (.inr (.inr 1))) else (bif (((((a0.Zt.getD p23.toNat default).Zo).Zx) == (((a0.Zt.getD p23.toNat default).fIf).Zx)) && (((((a0.Zt.getD p23.toNat default).Zo).ZV) == (((a0.Zt.getD p23.toNat default).fIf).ZV)) && true)) then (some (.inr (.inr 6))) else ((loopM (M.Y3 a0 p23) 0).bind fun y29 => Sum.elim (fun _ => some (.inl (wr .i64 (p23 + 1)))) (fun y31 => some (.inr (.inr y31))) y29)))) else (some (.inr (.inl ())))
noncomputable def M.QV (a0 : Xy) : Option Int :=
  bif decide ((a0.Z1.length : Int) > 8) then (some 7) else ((loopM (M.Y0 a0) 0).bind fun y9 => Sum.elim (fun _ => bif decide ((a0.ZE.length : Int) > 8) then (some 7) else ((loopM (M.Y2 a0) 0).bind fun y20 => Sum.elim (fun _ => bif decide ((a0.Zt.length : Int) > 8) then (some 7) else ((loopM (M.Y4 a0) 0).bind fun y32 => Sum.elim (fun _ => some 0) (fun y34 => some y34) y32)) (fun y22 => some y22) y20)) (fun y11 => some y11) y9)
noncomputable def M.QH (a0 : Zf) : Option Int :=
  bif !a0.Xs.Vw then (bif ((a0.Xs.XZ != 0) || (a0.Xs.X0 != 0)) || (decide ((wr .i64 ((wr .i64 ((wr .i64 ((wr .i64 ((a0.Xs.Zm.length : Int) + (a0.Xs.Z1.length : Int))) + (a0.Xs.ZE.length : Int))) + (a0.Xs.Zt.length : Int))) + (a0.Xs.Zs.length : Int))) > 0)) then (some 1) else (some 0)) else ((gc (!(a0.Gt == 0)) (M.ZW a0.Xs.XZ 1 255)).bind fun r1 => (gc (!((a0.Gt == 0) || (!r1))) (M.ZW a0.Xs.X0 1 255)).bind fun r2 => bif ((a0.Gt == 0) || (!r1)) || (!r2) then (some 1) else ((M.Va a0).bind fun r3 => bif r3 != 0 then (some r3) else ((M.QV a0.Xs).bind fun r4 => bif r4 != 0 then (some r4) else ((M.X4 a0 a0.Xs.Zs 5 0 16777215).bind fun r5 => some r5))))
noncomputable def M.Ye (r3 : Int) (r4 : Int) (r5 : Int) (r6 : Int) (r7 : Int) (r8 : Int) (r9 : Int) (r10 : Int) (r11 : Int) (r12 : Int) (p13 : Int) : Option (Int ⊕ (Unit ⊕ Int)) :=
  bif decide (p13 < (([r3, r4, r5, r6, r7, r8, r9, r10, r11, r12] : List Int).length : Int)) then (gd [decide (0 ≤ p13), decide (p13 < (([r3, r4, r5, r6, r7, r8, r9, r10, r11, r12] : List Int).length : Int))] (bif (([r3, r4, r5, r6, r7, r8, r9, r10, r11, r12] : List Int).getD p13.toNat default) != 0 then (gd [decide (0 ≤ p13), decide (p13 < (([r3, r4, r5, r6, r7, r8, r9, r10, r11, r12] : List Int).length : Int))] (some (.inr (.inr (([r3, r4, r5, r6, r7, r8, r9, r10, r11, r12] : List Int).getD p13.toNat default))))) else (some (.inl (wr .i64 (p13 + 1)))))) else (some (.inr (.inl ())))
noncomputable def M.Yn (a0 : Zf) : Option Int :=
  (M.QZ a0.Xm).bind fun r1 => bif !r1 then (some 3) else ((M.ZW a0.Gt 0 65535).bind fun r2 => bif !r2 then (some 1) else ((M.Yd a0.Zc).bind fun r3 => (M.Ql a0.Yw).bind fun r4 => (M.Q1 a0).bind fun r5 => (M.Qm a0.YF).bind fun r6 => (M.YY a0).bind fun r7 => (M.J8 a0).bind fun r8 => (M.J9 a0).bind fun r9 => (M.Q3 a0).bind fun r10 => (M.Jx a0).bind fun r11 => (M.QH a0).bind fun r12 => (loopM (M.Ye r3 r4 r5 r6 r7 r8 r9 r10 r11 r12) 0).bind fun y15 => Sum.elim (fun _ => some 0) (fun y17 => some y17) y15))
noncomputable def M.Jy (a0 : ZB) (p1 : Int) (p4 : Int) : Option (Int ⊕ (Unit ⊕ Int)) :=
  bif decide (p4 < p1) then (gd [decide (0 ≤ p4), decide (p4 < (a0.Zd.length : Int)), decide (0 ≤ p1), decide (p1 < (a0.Zd.length : Int))] (bif strEq ((a0.Zd.getD p4.toNat default).Xm) ((a0.Zd.getD p1.toNat default).Xm) then (some (.inr (.inr 4))) else (some (.inl (wr .i64 (p4 + 1)))))) else (some (.inr (.inl ())))
noncomputable def M.Jb (a0 : ZB) (p1 : Int) (p9 : Int) (p11 : Int) : Option (Int ⊕ (Unit ⊕ Int)) :=
  bif decide (p11 < p1) then ((gc (((((a0.Zd.getD p1.toNat default).Zc).getD p9.toNat default).ZV) != 0) (M.JG (a0.Zd.getD p11.toNat default) ((((a0.Zd.getD p1.toNat default).Zc).getD p9.toNat default).Zx))).bind fun r13 => gd [guardB (((((a0.Zd.getD p1.toNat default).Zc).getD p9.toNat default).ZV) != 0) (decide (0 ≤ p11)), guardB (((((a0.Zd.getD p1.toNat default).Zc).getD p9.toNat default).ZV) != 0) (decide (p11 < (a0.Zd.length : Int)))] (bif (((((a0.Zd.getD p1.toNat default).Zc).getD p9.toNat default).ZV) != 0) && (decide (r13 ≥ 0)) then (some (.inr (.inr 4))) else (some (.inl (wr .i64 (p11 + 1)))))) else (some (.inr (.inl ())))
noncomputable def M.Jc (a0 : ZB) (p1 : Int) (p9 : Int) : Option (Int ⊕ (Unit ⊕ Int)) :=
  gd [decide (0 ≤ p1), decide (p1 < (a0.Zd.length : Int))] (bif decide (p9 < (((a0.Zd.getD p1.toNat default).Zc).length : Int)) then (gd [decide (0 ≤ p1), decide (p1 < (a0.Zd.length : Int)), decide (0 ≤ p9), decide (p9 < (((a0.Zd.getD p1.toNat default).Zc).length : Int))] ((loopM (M.Jb a0 p1 p9) 0).bind fun y14 => Sum.elim (fun _ => some (.inl (wr .i64 (p9 + 1)))) (fun y16 => some (.inr (.inr y16))) y14)) else (some (.inr (.inl ()))))
noncomputable def M.Jd (a0 : ZB) (p1 : Int) : Option (Int ⊕ (Unit ⊕ Int)) :=
  bif decide (p1 < (a0.Zd.length : Int)) then ((M.Yn (a0.Zd.getD p1.toNat default)).bind fun r3 => gd [decide (0 ≤ p1), decide (p1 < (a0.Zd.length : Int))] (bif r3 != 0 then (some (.inr (.inr r3))) else ((loopM (M.Jy a0 p1) 0).bind fun y6 => Sum.elim (fun _ => (loopM (M.Jc a0 p1) 0).bind fun y17 => Sum.elim (fun _ => some (.inl (wr .i64 (p1 + 1)))) (fun y19 => some (.inr (.inr y19))) y17) (fun y8 => some (.inr (.inr y8))) y6))) else (some (.inr (.inl ())))
noncomputable def M.Q4 (a0 : ZB) : Option Int :=
  bif decide ((a0.Zd.length : Int) > 8) then (some 7) else ((loopM (M.Jd a0) 0).bind fun y20 => Sum.elim (fun _ => some 0) (fun y22 => some y22) y20)
noncomputable def M.Vp (a0 : ZZ) (a1 : ZZ) : Option Int :=
  bif (decide (a0.Zx < a1.Zx)) || ((a0.Zx == a1.Zx) && (decide (a0.ZV < a1.ZV))) then (some (-1)) else (bif ((a0.Zx == a1.Zx) && ((a0.ZV == a1.ZV) && true)) then (some 0) else (some 1))
noncomputable def M.Wy (p16 : (List Zh) × Int) (p18 : (List Zh)) : Option (((List Zh) × Int) ⊕ (List Zh)) :=
  some (.inl (p18, wr .i64 (p16.2 + 1)))
noncomputable def M.V3 (a0 : ZB) (p14 : (List Zh) × Int) (p16 : (List Zh) × Int) (r19 : ZZ) (p20 : Int) : Option (Int ⊕ Int) :=
  (gc (decide (p20 < (p16.1.length : Int))) (M.Vp ((p16.1.getD (0 + p20.toNat) default).Zo) r19)).bind fun r22 => gd [guardB (decide (p20 < (p16.1.length : Int))) (decide (0 ≤ p20)), guardB (decide (p20 < (p16.1.length : Int))) (decide (p20 < (p16.1.length : Int))), guardB ((decide (p20 < (p16.1.length : Int))) && !(decide (r22 < 0))) (decide (0 ≤ p20)), guardB ((decide (p20 < (p16.1.length : Int))) && !(decide (r22 < 0))) (decide (p20 < (p16.1.length : Int))), guardB (((decide (p20 < (p16.1.length : Int))) && !(decide (r22 < 0))) && (((((p16.1.getD (0 + p20.toNat) default).Zo).Zx) == r19.Zx) && (((((p16.1.getD (0 + p20.toNat) default).Zo).ZV) == r19.ZV) && true))) (decide (0 ≤ p20)), guardB (((decide (p20 < (p16.1.length : Int))) && !(decide (r22 < 0))) && (((((p16.1.getD (0 + p20.toNat) default).Zo).Zx) == r19.Zx) && (((((p16.1.getD (0 + p20.toNat) default).Zo).ZV) == r19.ZV) && true))) (decide (p20 < (p16.1.length : Int)))] (bif (decide (p20 < (p16.1.length : Int))) && ((decide (r22 < 0)) || ((((((p16.1.getD (0 + p20.toNat) default).Zo).Zx) == r19.Zx) && (((((p16.1.getD (0 + p20.toNat) default).Zo).ZV) == r19.ZV) && true)) && (decide (((p16.1.getD (0 + p20.toNat) default).XE) < ((((a0.Zd.getD p14.2.toNat default).Zc).getD p16.2.toNat default).XE))))) then (some (.inl (wr .i64 (p20 + 1)))) else (some (.inr p20)))
noncomputable def M.Wz (p14 : (List Zh) × Int) (p16 : (List Zh) × Int) (y23 : Int) (p24 : (List Zh)) : Option (((List Zh) × Int) ⊕ (List Zh)) :=
  gd [decide (0 ≤ y23), decide (y23 < (p24.length : Int)), decide ((((p24.getD (0 + y23.toNat) default).ZT).length + 1) * 16 ≤ 140737488355328), decide (0 ≤ y23), decide (y23 < (p24.length : Int))] (M.Wy p16 (p24.set (0 + y23.toNat) (⟨(p24.getD (0 + y23.toNat) default).Zo, (p24.getD (0 + y23.toNat) default).XE, ((p24.getD (0 + y23.toNat) default).ZT) ++ [(⟨p14.2, p16.2⟩ : XU)]⟩ : Zh)))
noncomputable def M.V4 (a0 : ZB) (p14 : (List Zh) × Int) (p16 : (List Zh) × Int) : Option (((List Zh) × Int) ⊕ (List Zh)) :=
  gd [decide (0 ≤ p14.2), decide (p14.2 < (a0.Zd.length : Int))] (bif decide (p16.2 < (((a0.Zd.getD p14.2.toNat default).Zc).length : Int)) then (gd [decide (0 ≤ p14.2), decide (p14.2 < (a0.Zd.length : Int)), decide (0 ≤ p16.2), decide (p16.2 < (((a0.Zd.getD p14.2.toNat default).Zc).length : Int))] (bif (((((a0.Zd.getD p14.2.toNat default).Zc).getD p16.2.toNat default).ZV) == 0) || ((((a0.Zd.getD p14.2.toNat default).Zc).getD p16.2.toNat default).QY) then (M.Wy p16 p16.1) else ((M.Qu ((((a0.Zd.getD p14.2.toNat default).Zc).getD p16.2.toNat default).Zx) ((((a0.Zd.getD p14.2.toNat default).Zc).getD p16.2.toNat default).ZV)).bind fun r19 => (loopM (M.V3 a0 p14 p16 r19) 0).bind fun y23 => gd [guardB (!(y23 == (p16.1.length : Int))) (decide (0 ≤ y23)), guardB (!(y23 == (p16.1.length : Int))) (decide (y23 < (p16.1.length : Int))), guardB (!((y23 == (p16.1.length : Int)) || (!(((((p16.1.getD (0 + y23.toNat) default).Zo).Zx) == r19.Zx) && (((((p16.1.getD (0 + y23.toNat) default).Zo).ZV) == r19.ZV) && true))))) (decide (0 ≤ y23)), guardB (!((y23 == (p16.1.length : Int)) || (!(((((p16.1.getD (0 + y23.toNat) default).Zo).Zx) == r19.Zx) && (((((p16.1.getD (0 + y23.toNat) default).Zo).ZV) == r19.ZV) && true))))) (decide (y23 < (p16.1.length : Int)))] (bif ((y23 == (p16.1.length : Int)) || (!(((((p16.1.getD (0 + y23.toNat) default).Zo).Zx) == r19.Zx) && (((((p16.1.getD (0 + y23.toNat) default).Zo).ZV) == r19.ZV) && true)))) || (((p16.1.getD (0 + y23.toNat) default).XE) != ((((a0.Zd.getD p14.2.toNat default).Zc).getD p16.2.toNat default).XE)) then (gd [decide (0 ≤ y23), decide (y23 ≤ (p16.1.length : Int)), decide (0 = 0) || decide (0 < (p16.1.length - y23.toNat)), decide ((0 + (p16.1.length - y23.toNat)) * 48 ≤ 140737488355328)] (gd [decide (0 ≤ y23), decide (y23 ≤ (p16.1.length : Int)), decide (((y23.toNat - 0) + 1) * 48 ≤ 140737488355328), decide ((((y23.toNat - 0) + 1) + (0 + (p16.1.length - y23.toNat))) * 48 ≤ 140737488355328)] (M.Wz p14 p16 y23 (insL p16.1 y23.toNat (⟨r19, (((a0.Zd.getD p14.2.toNat default).Zc).getD p16.2.toNat default).XE, ([] : List XU)⟩ : Zh))))) else (M.Wz p14 p16 y23 p16.1))))) else (some (.inr p16.1)))
noncomputable def M.V5 (a0 : ZB) (p14 : (List Zh) × Int) : Option (((List Zh) × Int) ⊕ (List Zh)) :=
  bif decide (p14.2 < (a0.Zd.length : Int)) then ((loopM (M.V4 a0 p14) (p14.1, 0)).bind fun y25 => some (.inl (y25, wr .i64 (p14.2 + 1)))) else (some (.inr p14.1))
noncomputable def M.WA (p28 : (List Int) × Int) (p30 : (List Int)) : Option (((List Int) × Int) ⊕ (List Int)) :=
  some (.inl (p30, wr .i64 (p28.2 + 1)))
noncomputable def M.V6 (y26 : (List Zh)) (p28 : (List Int) × Int) : Option (((List Int) × Int) ⊕ (List Int)) :=
  bif decide (p28.2 < (y26.length : Int)) then (gd [decide (0 ≤ p28.2), decide (p28.2 < (y26.length : Int))] (bif decide ((((y26.getD p28.2.toNat default).ZT).length : Int) > 1) then (gd [decide ((p28.1.length + 1) * 8 ≤ 140737488355328)] (M.WA p28 (p28.1 ++ [p28.2]))) else (M.WA p28 p28.1))) else (some (.inr p28.1))
noncomputable def M.Ug (a0 : ZB) : Option (Qt × Int) :=
  (M.Q4 a0).bind fun r1 => bif r1 != 0 then (some ((⟨([] : List Zh), ([] : List Int)⟩ : Qt), r1)) else ((loopM (M.V5 a0) (([] : List Zh), 0)).bind fun y26 => (loopM (M.V6 y26) (([] : List Int), 0)).bind fun y31 => bif decide ((y31.length : Int) > 12) then (some ((⟨([] : List Zh), ([] : List Int)⟩ : Qt), 7)) else (some ((⟨y26, y31⟩ : Qt), 0)))
noncomputable def M.X5 (a0 : List Int) (a1 : Int) (p1 : Int) : Option (Int ⊕ (Unit ⊕ Bool)) :=
  bif decide (p1 < (a0.length : Int)) then (gd [decide (0 ≤ p1), decide (p1 < (a0.length : Int)), guardB (!(decide ((a0.getD p1.toNat default) < 0))) (decide (0 ≤ p1)), guardB (!(decide ((a0.getD p1.toNat default) < 0))) (decide (p1 < (a0.length : Int))), guardB ((!((decide ((a0.getD p1.toNat default) < 0)) || (decide ((a0.getD p1.toNat default) ≥ a1)))) && (decide (p1 > 0))) (decide (0 ≤ p1)), guardB ((!((decide ((a0.getD p1.toNat default) < 0)) || (decide ((a0.getD p1.toNat default) ≥ a1)))) && (decide (p1 > 0))) (decide (p1 < (a0.length : Int))), guardB ((!((decide ((a0.getD p1.toNat default) < 0)) || (decide ((a0.getD p1.toNat default) ≥ a1)))) && (decide (p1 > 0))) (decide (0 ≤ (wr .i64 (p1 - 1)))), guardB ((!((decide ((a0.getD p1.toNat default) < 0)) || (decide ((a0.getD p1.toNat default) ≥ a1)))) && (decide (p1 > 0))) (decide ((wr .i64 (p1 - 1)) < (a0.length : Int)))] (bif ((decide ((a0.getD p1.toNat default) < 0)) || (decide ((a0.getD p1.toNat default) ≥ a1))) || ((decide (p1 > 0)) && (decide ((a0.getD p1.toNat default) ≤ (a0.getD (wr .i64 (p1 - 1)).toNat default)))) then (some (.inr (.inr false))) else (some (.inl (wr .i64 (p1 + 1)))))) else (some (.inr (.inl ())))
noncomputable def M.QI (a0 : List Int) (a1 : Int) : Option Bool :=
  bif decide ((a0.length : Int) > 2) then (some false) else ((loopM (M.X5 a0 a1) 0).bind fun y3 => Sum.elim (fun _ => some true) (fun y5 => some y5) y3)
noncomputable def M.KK (a0 : ZB) (a1 : List Int) : Option (XM × Int) :=
  (M.Ug a0).bind fun r1 => bif r1.2 != 0 then (some ((⟨(⟨([] : List Zf)⟩ : ZB), (⟨([] : List Zh), ([] : List Int)⟩ : Qt), ([] : List Int)⟩ : XM), r1.2)) else ((M.QI a1 (r1.1.YC.length : Int)).bind fun r2 => bif !r2 then (some ((⟨(⟨([] : List Zf)⟩ : ZB), (⟨([] : List Zh), ([] : List Int)⟩ : Qt), ([] : List Int)⟩ : XM), 1)) else (gd [decide (0 = 0) || decide (0 < a1.length), decide ((0 + a1.length) * 8 ≤ 140737488355328)] (some ((⟨a0, r1.1, (a1 : List Int)⟩ : XM), 0))))
noncomputable def M.Ux (a0 : ZB) (a1 : List Int) : Option (XM × Bool) :=
  (M.JU a0).bind fun r1 => bif (!r1) || (decide ((a1.length : Int) > 2)) then (some ((⟨(⟨([] : List Zf)⟩ : ZB), (⟨([] : List Zh), ([] : List Int)⟩ : Qt), ([] : List Int)⟩ : XM), false)) else ((M.KK a0 a1).bind fun r2 => some (r2.1, r2.2 == 0))
noncomputable def M.Z4 (a0 : List XU) (a1 : XU) (p1 : Int) : Option (Int ⊕ (Unit ⊕ Int)) :=
  bif decide (p1 < (a0.length : Int)) then (gd [decide (0 ≤ p1), decide (p1 < (a0.length : Int))] (bif ((a1.XJ == ((a0.getD p1.toNat default).XJ)) && ((a1.XY == ((a0.getD p1.toNat default).XY)) && true)) then (some (.inr (.inr p1))) else (some (.inl (wr .i64 (p1 + 1)))))) else (some (.inr (.inl ())))
noncomputable def M.Z9 (a0 : List XU) (a1 : XU) : Option Int :=
  (loopM (M.Z4 a0 a1) 0).bind fun y3 => Sum.elim (fun _ => some (-1)) (fun y5 => some y5) y3
noncomputable def M.ZY (a0 : List XU) (a1 : XU) : Option Bool :=
  (M.Z9 a0 a1).bind fun r1 => some (decide (r1 ≥ 0))
noncomputable def M.Yt (a0 : XM) (a1 : Int) (a2 : Int) (p1 : Int) : Option (Int ⊕ (Unit ⊕ Int)) :=
  bif decide (p1 < (a0.Xd.Zv.length : Int)) then (gd [decide (0 ≤ p1), decide (p1 < (a0.Xd.Zv.length : Int))] ((M.ZY ((a0.Xd.Zv.getD p1.toNat default).ZT) (⟨a1, a2⟩ : XU)).bind fun r3 => bif r3 then (some (.inr (.inr p1))) else (some (.inl (wr .i64 (p1 + 1)))))) else (some (.inr (.inl ())))
noncomputable def M.Yr (a0 : XM) (a1 : Int) (a2 : Int) : Option Int :=
  (loopM (M.Yt a0 a1 a2) 0).bind fun y4 => Sum.elim (fun _ => some (-1)) (fun y6 => some y6) y4
noncomputable def M.XI (a0 : List Int) (a1 : Int) (p1 : Int) : Option (Int ⊕ (Unit ⊕ Int)) :=
  bif decide (p1 < (a0.length : Int)) then (gd [decide (0 ≤ p1), decide (p1 < (a0.length : Int))] (bif a1 == (a0.getD p1.toNat default) then (some (.inr (.inr p1))) else (some (.inl (wr .i64 (p1 + 1)))))) else (some (.inr (.inl ())))
noncomputable def M.XG (a0 : List Int) (a1 : Int) : Option Int :=
  (loopM (M.XI a0 a1) 0).bind fun y3 => Sum.elim (fun _ => some (-1)) (fun y5 => some y5) y3
noncomputable def M.Jw (a0 : XM) (a1 : Int) (a2 : Int) : Option Int :=
  (M.Yr a0 a1 a2).bind fun r1 => bif decide (r1 < 0) then (some (-1)) else ((M.XG a0.Xd.YC r1).bind fun r2 => some r2)
noncomputable def M.Xw (a0 : List Int) (a1 : Int) : Option Bool :=
  (M.XG a0 a1).bind fun r1 => some (decide (r1 ≥ 0))
noncomputable def M.Vg (a0 : XM) (a1 : Int) (a2 : Int) : Option Bool :=
  (M.Yr a0 a1 a2).bind fun r1 => bif decide (r1 < 0) then (some false) else ((M.Jw a0 a1 a2).bind fun r2 => (gc (!(decide (r2 < 0))) (M.Xw a0.QY r2)).bind fun r3 => some ((decide (r2 < 0)) || (!r3)))
noncomputable def M.VE (p3 : (List XU) × Int) (p5 : (List XU)) : Option (((List XU) × Int) ⊕ (List XU)) :=
  some (.inl (p5, wr .i64 (p3.2 + 1)))
noncomputable def M.Ua (a0 : XM) (a1 : Int) (a2 : Int) (r2 : Int) (p3 : (List XU) × Int) : Option (((List XU) × Int) ⊕ (List XU)) :=
  bif decide (p3.2 < (((a0.Xd.Zv.getD r2.toNat default).ZT).length : Int)) then (gd [decide (0 ≤ p3.2), decide (p3.2 < (((a0.Xd.Zv.getD r2.toNat default).ZT).length : Int))] (bif (((((a0.Xd.Zv.getD r2.toNat default).ZT).getD p3.2.toNat default).XJ) != a1) || (((((a0.Xd.Zv.getD r2.toNat default).ZT).getD p3.2.toNat default).XY) != a2) then (gd [decide ((p3.1.length + 1) * 16 ≤ 140737488355328)] (M.VE p3 (p3.1 ++ [((a0.Xd.Zv.getD r2.toNat default).ZT).getD p3.2.toNat default]))) else (M.VE p3 p3.1))) else (some (.inr p3.1))
noncomputable def M.WB (a0 : XM) (a1 : Int) (a2 : Int) : Option (List XU) :=
  (M.Vg a0 a1 a2).bind fun r1 => bif !r1 then (some ([] : List XU)) else ((M.Yr a0 a1 a2).bind fun r2 => gd [decide (0 ≤ r2), decide (r2 < (a0.Xd.Zv.length : Int))] ((loopM (M.Ua a0 a1 a2 r2) (([] : List XU), 0)).bind fun y6 => some y6))
noncomputable def M.QL (a0 : XM) (a1 : XU) : Option (Zl × Bool) :=
  bif (decide (a1.XJ < 0)) || (decide (a1.XJ ≥ (a0.VD.Zd.length : Int))) then (some ((⟨(⟨#[]⟩ : ByteArray), 0, 0, 0, false, false, 0, 0, false, (⟨#[]⟩ : ByteArray), (⟨#[]⟩ : ByteArray), 0⟩ : Zl), false)) else (gd [decide (0 ≤ a1.XJ), decide (a1.XJ < (a0.VD.Zd.length : Int))] (bif (decide (a1.XY < 0)) || (decide (a1.XY ≥ (((a0.VD.Zd.getD a1.XJ.toNat default).Zc).length : Int))) then (some ((⟨(⟨#[]⟩ : ByteArray), 0, 0, 0, false, false, 0, 0, false, (⟨#[]⟩ : ByteArray), (⟨#[]⟩ : ByteArray), 0⟩ : Zl), false)) else (gd [decide (0 ≤ a1.XY), decide (a1.XY < (((a0.VD.Zd.getD a1.XJ.toNat default).Zc).length : Int))] (some (((a0.VD.Zd.getD a1.XJ.toNat default).Zc).getD a1.XY.toNat default, true)))))
noncomputable def M.Wm (a0 : XM) (a3 : Int) (r1 : (List XU)) (p2 : Int) : Option (Int ⊕ (Unit ⊕ (XU × Bool))) :=
  bif decide (p2 < (r1.length : Int)) then (gd [decide (0 ≤ p2), decide (p2 < (r1.length : Int))] ((M.QL a0 (r1.getD p2.toNat default)).bind fun r4 => bif r4.2 && (r4.1.Zx == a3) then (some (.inr (.inr (r1.getD p2.toNat default, true)))) else (some (.inl (wr .i64 (p2 + 1)))))) else (some (.inr (.inl ())))
noncomputable def M.GE (a0 : XM) (a1 : Int) (a2 : Int) (a3 : Int) : Option (XU × Bool) :=
  (M.WB a0 a1 a2).bind fun r1 => (loopM (M.Wm a0 a3 r1) 0).bind fun y5 => Sum.elim (fun _ => some ((⟨0, 0⟩ : XU), false)) (fun y7 => some y7) y5
noncomputable def M.Je (a0 : XM) (a1 : Int) (a2 : Int) (p1 : Int) (p3 : Int) : Option (Int ⊕ (Unit ⊕ Int)) :=
  gd [decide (0 ≤ p1), decide (p1 < (a0.Xd.Zv.length : Int))] (bif decide (p3 < (((a0.Xd.Zv.getD p1.toNat default).ZT).length : Int)) then (gd [decide (0 ≤ p1), decide (p1 < (a0.Xd.Zv.length : Int)), decide (0 ≤ p3), decide (p3 < (((a0.Xd.Zv.getD p1.toNat default).ZT).length : Int))] (bif ((((((a0.Xd.Zv.getD p1.toNat default).ZT).getD p3.toNat default).XJ) == a1) && ((((((a0.Xd.Zv.getD p1.toNat default).ZT).getD p3.toNat default).XY) == a2) && true)) then (some (.inr (.inr p1))) else (some (.inl (wr .i64 (p3 + 1)))))) else (some (.inr (.inl ()))))
noncomputable def M.Jf (a0 : XM) (a1 : Int) (a2 : Int) (p1 : Int) : Option (Int ⊕ (Unit ⊕ Int)) :=
  bif decide (p1 < (a0.Xd.Zv.length : Int)) then ((loopM (M.Je a0 a1 a2 p1) 0).bind fun y5 => Sum.elim (fun _ => some (.inl (wr .i64 (p1 + 1)))) (fun y7 => some (.inr (.inr y7))) y5) else (some (.inr (.inl ())))
noncomputable def M.Qw (a0 : XM) (a1 : Int) (a2 : Int) : Option Int :=
  (loopM (M.Jf a0 a1 a2) 0).bind fun y8 => Sum.elim (fun _ => some (-1)) (fun y10 => some y10) y8
noncomputable def M.Jz (a0 : XM) (r1 : Int) (p2 : Int) : Option (Int ⊕ (Unit ⊕ Int)) :=
  bif decide (p2 < (a0.Xd.YC.length : Int)) then (gd [guardB (decide (r1 ≥ 0)) (decide (0 ≤ p2)), guardB (decide (r1 ≥ 0)) (decide (p2 < (a0.Xd.YC.length : Int)))] (bif (decide (r1 ≥ 0)) && ((a0.Xd.YC.getD p2.toNat default) == r1) then (some (.inr (.inr p2))) else (some (.inl (wr .i64 (p2 + 1)))))) else (some (.inr (.inl ())))
noncomputable def M.VJ (a0 : XM) (a1 : Int) (a2 : Int) : Option Int :=
  (M.Qw a0 a1 a2).bind fun r1 => (loopM (M.Jz a0 r1) 0).bind fun y4 => Sum.elim (fun _ => some (-1)) (fun y6 => some y6) y4
noncomputable def M.VV (a0 : XM) (r2 : Int) (p3 : Int) : Option (Int ⊕ (Unit ⊕ Bool)) :=
  bif decide (p3 < (a0.QY.length : Int)) then (gd [decide (0 ≤ p3), decide (p3 < (a0.QY.length : Int))] (bif (a0.QY.getD p3.toNat default) == r2 then (some (.inr (.inr false))) else (some (.inl (wr .i64 (p3 + 1)))))) else (some (.inr (.inl ())))
noncomputable def M.Uh (a0 : XM) (a1 : Int) (a2 : Int) : Option Bool :=
  (M.Qw a0 a1 a2).bind fun r1 => bif decide (r1 < 0) then (some false) else ((M.VJ a0 a1 a2).bind fun r2 => (loopM (M.VV a0 r2) 0).bind fun y5 => Sum.elim (fun _ => some true) (fun y7 => some y7) y5)
noncomputable def M.Vl (p3 : (List XU) × Int) (p5 : (List XU)) : Option (((List XU) × Int) ⊕ (List XU)) :=
  some (.inl (p5, wr .i64 (p3.2 + 1)))
noncomputable def M.WR (a0 : XM) (a1 : Int) (r2 : Int) (p3 : (List XU) × Int) : Option (((List XU) × Int) ⊕ (List XU)) :=
  bif decide (p3.2 < (((a0.Xd.Zv.getD r2.toNat default).ZT).length : Int)) then (gd [decide (0 ≤ p3.2), decide (p3.2 < (((a0.Xd.Zv.getD r2.toNat default).ZT).length : Int))] (bif ((((a0.Xd.Zv.getD r2.toNat default).ZT).getD p3.2.toNat default).XJ) != a1 then (gd [decide (0 ≤ p3.2), decide (p3.2 < (((a0.Xd.Zv.getD r2.toNat default).ZT).length : Int)), decide ((p3.1.length + 1) * 16 ≤ 140737488355328)] (M.Vl p3 (p3.1 ++ [((a0.Xd.Zv.getD r2.toNat default).ZT).getD p3.2.toNat default]))) else (M.Vl p3 p3.1))) else (some (.inr p3.1))
noncomputable def M.Wc (a0 : XM) (a1 : Int) (a2 : Int) : Option (List XU) :=
  (M.Uh a0 a1 a2).bind fun r1 => bif !r1 then (some ([] : List XU)) else ((M.Qw a0 a1 a2).bind fun r2 => gd [decide (0 ≤ r2), decide (r2 < (a0.Xd.Zv.length : Int))] ((loopM (M.WR a0 a1 r2) (([] : List XU), 0)).bind fun y6 => some y6))
noncomputable def M.RD (a0 : XM) (a1 : XU) : Option Zl :=
  gd [decide (0 ≤ a1.XJ), decide (a1.XJ < (a0.VD.Zd.length : Int)), decide (0 ≤ a1.XY), decide (a1.XY < (((a0.VD.Zd.getD a1.XJ.toNat default).Zc).length : Int))] (some (((a0.VD.Zd.getD a1.XJ.toNat default).Zc).getD a1.XY.toNat default))
noncomputable def M.V7 (a0 : XM) (a3 : Int) (r1 : (List XU)) (p2 : Int) : Option (Int ⊕ (Unit ⊕ (XU × Bool))) :=
  bif decide (p2 < (r1.length : Int)) then ((M.RD a0 (r1.getD p2.toNat default)).bind fun r4 => gd [decide (0 ≤ p2), decide (p2 < (r1.length : Int))] (bif r4.Zx == a3 then (gd [decide (0 ≤ p2), decide (p2 < (r1.length : Int))] (some (.inr (.inr (r1.getD p2.toNat default, true))))) else (some (.inl (wr .i64 (p2 + 1)))))) else (some (.inr (.inl ())))
noncomputable def M.Gi (a0 : XM) (a1 : Int) (a2 : Int) (a3 : Int) : Option (XU × Bool) :=
  (M.Wc a0 a1 a2).bind fun r1 => (loopM (M.V7 a0 a3 r1) 0).bind fun y5 => Sum.elim (fun _ => some ((⟨0, 0⟩ : XU), false)) (fun y7 => some y7) y5
noncomputable def M.Vq (a0 : List XU) (a1 : List XU) (p1 : Int) : Option (Int ⊕ (Unit ⊕ Bool)) :=
  bif decide (p1 < (a0.length : Int)) then (gd [decide (0 ≤ p1), decide (p1 < (a0.length : Int)), decide (0 ≤ p1), decide (p1 < (a1.length : Int))] (bif !((((a0.getD p1.toNat default).XJ) == ((a1.getD p1.toNat default).XJ)) && ((((a0.getD p1.toNat default).XY) == ((a1.getD p1.toNat default).XY)) && true)) then (some (.inr (.inr false))) else (some (.inl (wr .i64 (p1 + 1)))))) else (some (.inr (.inl ())))
noncomputable def M.W5 (a0 : List XU) (a1 : List XU) : Option Bool :=
  bif (a0.length : Int) != (a1.length : Int) then (some false) else ((loopM (M.Vq a0 a1) 0).bind fun y3 => Sum.elim (fun _ => some true) (fun y5 => some y5) y3)
noncomputable def M.V8  : Option ZB :=
  some (⟨([(⟨(⟨#[97]⟩ : ByteArray), 0, ([(⟨(⟨#[101, 48]⟩ : ByteArray), 167772161, 24, 0, false, false, 0, 0, false, (⟨#[]⟩ : ByteArray), (⟨#[]⟩ : ByteArray), 0⟩ : Zl)] : List Zl), ([] : List Z2), ([] : List Ya), ([] : List W3), ([] : List YT), ([] : List YU), (⟨false, 0, ([] : List J4), ([] : List YK)⟩ : Vj), (⟨false, 0, (⟨#[]⟩ : ByteArray), (⟨#[]⟩ : ByteArray), ([] : List YK)⟩ : YE), (⟨false, 0, 0, ([] : List Jv), ([] : List ZZ), ([] : List J5), ([] : List J6), ([] : List YK)⟩ : Xy)⟩ : Zf), (⟨(⟨#[98]⟩ : ByteArray), 0, ([(⟨(⟨#[101, 48]⟩ : ByteArray), 167772162, 24, 0, false, false, 0, 0, false, (⟨#[]⟩ : ByteArray), (⟨#[]⟩ : ByteArray), 0⟩ : Zl), (⟨(⟨#[101, 49]⟩ : ByteArray), 167772418, 24, 0, false, false, 0, 0, false, (⟨#[]⟩ : ByteArray), (⟨#[]⟩ : ByteArray), 0⟩ : Zl)] : List Zl), ([] : List Z2), ([] : List Ya), ([] : List W3), ([] : List YT), ([] : List YU), (⟨false, 0, ([] : List J4), ([] : List YK)⟩ : Vj), (⟨false, 0, (⟨#[]⟩ : ByteArray), (⟨#[]⟩ : ByteArray), ([] : List YK)⟩ : YE), (⟨false, 0, 0, ([] : List Jv), ([] : List ZZ), ([] : List J5), ([] : List J6), ([] : List YK)⟩ : Xy)⟩ : Zf)] : List Zf)⟩ : ZB)
noncomputable def M.Vy (a0 : Int) : Option Bool :=
  some (((decide (65 ≤ a0)) && (decide (a0 ≤ 90))) || ((decide (97 ≤ a0)) && (decide (a0 ≤ 122))))
noncomputable def M.WS (a0 : Int) : Option Bool :=
  some ((decide (48 ≤ a0)) && (decide (a0 ≤ 57)))
noncomputable def M.Wf (a0 : ByteArray) (p2 : Int) : Option (Int ⊕ Unit) :=
  bif decide (p2 < (a0.size : Int)) then (gd [decide (0 ≤ p2), decide (p2 < (a0.size : Int))] ((M.Vy (byteAt a0 p2)).bind fun r4 => (gc (!r4) (M.WS (byteAt a0 p2))).bind fun r5 => bif (((((!r4) && (!r5)) && ((byteAt a0 p2) != 45)) && ((byteAt a0 p2) != 95)) && ((byteAt a0 p2) != 47)) && ((byteAt a0 p2) != 46) then none else (some (.inl (wr .i64 (p2 + 1)))))) else (some (.inr ()))
noncomputable def M.WC (a0 : ByteArray) : Option Bool :=
  (gc (!((decide ((a0.size : Int) < 1)) || (decide ((a0.size : Int) > 15)))) (M.Vy (byteAt a0 0))).bind fun r1 => gd [guardB (!((decide ((a0.size : Int) < 1)) || (decide ((a0.size : Int) > 15)))) (decide (0 ≤ 0)), guardB (!((decide ((a0.size : Int) < 1)) || (decide ((a0.size : Int) > 15)))) (decide (0 < (a0.size : Int)))] (bif ((decide ((a0.size : Int) < 1)) || (decide ((a0.size : Int) > 15))) || (!r1) then none else ((loopM (M.Wf a0) 1).bind fun y6 => some true))
noncomputable def M.Qx (a0 : Int) (a1 : Int) (a2 : Int) : Option Bool :=
  some ((decide (a1 ≤ a0)) && (decide (a0 ≤ a2)))
noncomputable def M.QW (a0 : Zl) (b0 : ByteArray) : Option Bool :=
  some (strEq a0.Xm b0)
noncomputable def M.ZR (a0 : List Zl) (a1c0 : ByteArray) (p1 : Int) : Option (Int ⊕ (Unit ⊕ Int)) :=
  bif decide (p1 < (a0.length : Int)) then ((M.QW (a0.getD p1.toNat default) a1c0).bind fun r3 => gd [decide (0 ≤ p1), decide (p1 < (a0.length : Int))] (bif r3 then (some (.inr (.inr p1))) else (some (.inl (wr .i64 (p1 + 1)))))) else (some (.inr (.inl ())))
noncomputable def M.ZH (a0 : List Zl) (a1c0 : ByteArray) : Option Int :=
  (loopM (M.ZR a0 a1c0) 0).bind fun y4 => Sum.elim (fun _ => some (-1)) (fun y6 => some y6) y4
noncomputable def M.JJ (a0 : Zf) (a1 : ByteArray) : Option Int :=
  (M.ZH a0.Zc a1).bind fun r1 => some r1
noncomputable def M.Y5 (a0 : Zl) : Option Bool :=
  (M.Qx a0.ZV 0 32).bind fun r1 => (gc (!(!r1)) (M.Qx a0.XE 0 4094)).bind fun r2 => (gc (!((!r1) || (!r2))) (M.Qx a0.RA 0 2)).bind fun r3 => bif ((!r1) || (!r2)) || (!r3) then none else (bif (a0.ZV == 0) && (((((((a0.Zx != 0) || (a0.XE != 0)) || (a0.RA != 0)) || a0.Yh) || a0.Yo) || (!strEq a0.VQ (⟨#[]⟩ : ByteArray))) || (!strEq a0.Qa (⟨#[]⟩ : ByteArray))) then none else (bif (a0.ZV != 0) && (a0.Zx == 0) then none else (bif a0.Yh then none else (some ((a0.V0 == 0) && (a0.ZbN == 0))))))
noncomputable def M.V9 (a0 : Int) : Option Int :=
  some (if (if 32 < a0 then 32 else a0) > 0 then (if 32 < a0 then 32 else a0) else 0)
noncomputable def M.WD (a0 : Int) : Option Int :=
  (M.V9 a0).bind fun r1 => gd [decide (0 ≤ (wr .i64 (32 - r1)))] (some (wr .u32 (4294967295 * 2 ^ min (wr .i64 (32 - r1)).toNat 32)))
noncomputable def M.Jk (a0 : Int) (a1 : Int) : Option ZZ :=
  (M.WD a1).bind fun r1 => (M.V9 a1).bind fun r2 => some (⟨bitD .and .u32 a0 r1, r2⟩ : ZZ)
noncomputable def M.Vr (a0 : ZZ) (a1 : Int) : Option Bool :=
  (M.WD a0.ZV).bind fun r1 => some ((bitD .and .u32 a1 r1) == a0.Zx)
noncomputable def M.Vz (a0 : ZZ) (a1 : ZZ) : Option Bool :=
  (gc (decide (a0.ZV ≤ a1.ZV)) (M.Vr a0 a1.Zx)).bind fun r1 => some ((decide (a0.ZV ≤ a1.ZV)) && r1)
noncomputable def M.Vt (a0 : ZZ) (a1 : ZZ) : Option Bool :=
  (M.Vz a0 a1).bind fun r1 => (gc (!r1) (M.Vz a1 a0)).bind fun r2 => some (r1 || r2)
noncomputable def M.Yz (a0 : Zf) (p1 : Int) (p6 : Int) : Option (Int ⊕ Unit) :=
  bif decide (p6 < ((p1.toNat - 0 : Nat) : Int)) then (gd [decide (0 ≤ p6), decide (p6 < (((a0.Zc.drop 0).take (p1.toNat - 0)).length : Int))] ((gc ((((a0.Zc.getD p1.toNat default).ZV) != 0) && (((((a0.Zc.drop 0).take (p1.toNat - 0)).getD p6.toNat default).ZV) != 0)) (M.Jk ((a0.Zc.getD p1.toNat default).Zx) ((a0.Zc.getD p1.toNat default).ZV))).bind fun r8 => (gc ((((a0.Zc.getD p1.toNat default).ZV) != 0) && (((((a0.Zc.drop 0).take (p1.toNat - 0)).getD p6.toNat default).ZV) != 0)) (M.Jk ((((a0.Zc.drop 0).take (p1.toNat - 0)).getD p6.toNat default).Zx) ((((a0.Zc.drop 0).take (p1.toNat - 0)).getD p6.toNat default).ZV))).bind fun r9 => (gc ((((a0.Zc.getD p1.toNat default).ZV) != 0) && (((((a0.Zc.drop 0).take (p1.toNat - 0)).getD p6.toNat default).ZV) != 0)) (M.Vt r8 r9)).bind fun r10 => bif ((((a0.Zc.getD p1.toNat default).ZV) != 0) && (((((a0.Zc.drop 0).take (p1.toNat - 0)).getD p6.toNat default).ZV) != 0)) && r10 then none else (some (.inl (wr .i64 (p6 + 1)))))) else (some (.inr ()))
noncomputable def M.YA (a0 : Zf) (p1 : Int) : Option (Int ⊕ Unit) :=
  bif decide (p1 < (a0.Zc.length : Int)) then (gd [decide (0 ≤ p1), decide (p1 < (a0.Zc.length : Int))] ((M.WC ((a0.Zc.getD p1.toNat default).Xm)).bind fun r3 => bif !r3 then none else ((M.JJ a0 ((a0.Zc.getD p1.toNat default).Xm)).bind fun r4 => bif decide (r4 < p1) then none else ((M.Y5 (a0.Zc.getD p1.toNat default)).bind fun r5 => bif !r5 then none else (gd [decide (0 ≤ p1), decide (p1 ≤ (a0.Zc.length : Int))] ((loopM (M.Yz a0 p1) 0).bind fun y11 => some (.inl (wr .i64 (p1 + 1))))))))) else (some (.inr ()))
noncomputable def M.YL (a0 : Zf) : Option Int :=
  bif decide ((a0.Zc.length : Int) > 8) then none else ((loopM (M.YA a0) 0).bind fun y12 => some 0)
noncomputable def M.Ys (a0 : Zf) (p1 : Int) : Option (Int ⊕ Unit) :=
  bif decide (p1 < (a0.Yw.length : Int)) then none else (some (.inr ()))
noncomputable def M.Yx (a0 : Zf) : Option Int :=
  bif decide ((a0.Yw.length : Int) > 8) then none else ((loopM (M.Ys a0) 0).bind fun y3 => some 0)
noncomputable def M.YN (a0 : Zf) (p1 : Int) : Option (Int ⊕ Unit) :=
  bif decide (p1 < (a0.XF.length : Int)) then none else (some (.inr ()))
noncomputable def M.Y6 (a0 : Zf) : Option Int :=
  bif decide ((a0.XF.length : Int) > 8) then none else ((loopM (M.YN a0) 0).bind fun y3 => some 0)
noncomputable def M.Q5 (a0 : Zf) (p1 : Int) : Option (Int ⊕ Unit) :=
  bif decide (p1 < (a0.YF.length : Int)) then none else (some (.inr ()))
noncomputable def M.JK (a0 : Zf) : Option Int :=
  bif decide ((a0.YF.length : Int) > 8) then none else ((loopM (M.Q5 a0) 0).bind fun y3 => some 0)
noncomputable def M.Js (a0 : Zf) (p1 : Int) : Option (Int ⊕ Unit) :=
  bif decide (p1 < (a0.Xc.length : Int)) then none else (some (.inr ()))
noncomputable def M.Vb (a0 : Zf) : Option Int :=
  bif decide ((a0.Xc.length : Int) > 8) then none else ((loopM (M.Js a0) 0).bind fun y3 => some 0)
noncomputable def M.WE (_a0 : Zf) (_a1 : ByteArray) : Option Int :=
  none
noncomputable def M.Qc (a0 : Zf) (p1 : Int) : Option (Int ⊕ Unit) :=
  bif decide (p1 < (a0.Zc.length : Int)) then (gd [decide (0 ≤ p1), decide (p1 < (a0.Zc.length : Int))] ((gc (!strEq ((a0.Zc.getD p1.toNat default).VQ) (⟨#[]⟩ : ByteArray)) (M.WE a0 ((a0.Zc.getD p1.toNat default).VQ))).bind fun r3 => (gc ((!((!strEq ((a0.Zc.getD p1.toNat default).VQ) (⟨#[]⟩ : ByteArray)) && (decide (r3 < 0)))) && (!strEq ((a0.Zc.getD p1.toNat default).Qa) (⟨#[]⟩ : ByteArray))) (M.WE a0 ((a0.Zc.getD p1.toNat default).Qa))).bind fun r4 => bif ((!strEq ((a0.Zc.getD p1.toNat default).VQ) (⟨#[]⟩ : ByteArray)) && (decide (r3 < 0))) || ((!strEq ((a0.Zc.getD p1.toNat default).Qa) (⟨#[]⟩ : ByteArray)) && (decide (r4 < 0))) then none else (some (.inl (wr .i64 (p1 + 1)))))) else (some (.inr ()))
noncomputable def M.Qy (a0 : Zf) : Option Int :=
  (loopM (M.Qc a0) 0).bind fun y5 => some 0
noncomputable def M.Qd (a0 : Zf) (p1 : Int) : Option (Int ⊕ Unit) :=
  bif decide (p1 < (a0.Zr.length : Int)) then none else (some (.inr ()))
noncomputable def M.Qz (a0 : Zf) : Option Int :=
  bif decide ((a0.Zr.length : Int) > 16) then none else ((loopM (M.Qd a0) 0).bind fun y3 => some 0)
noncomputable def M.Y7 (a0 : Zf) : Option Int :=
  bif !a0.Yh.Vw then (bif ((a0.Yh.Xr != 0) || (decide ((a0.Yh.Z6.length : Int) > 0))) || (decide ((a0.Yh.Zs.length : Int) > 0)) then none else (some 0)) else none
noncomputable def M.Yb (a0 : Zf) : Option Int :=
  bif !a0.Yo.Vw then (bif (((a0.Yo.Xr != 0) || (!strEq a0.Yo.VQ (⟨#[]⟩ : ByteArray))) || (!strEq a0.Yo.Qa (⟨#[]⟩ : ByteArray))) || (decide ((a0.Yo.Zs.length : Int) > 0)) then none else (some 0)) else none
noncomputable def M.YM (a0 : Zf) : Option Int :=
  bif !a0.Xs.Vw then (bif ((((((a0.Xs.XZ != 0) || (a0.Xs.X0 != 0)) || (decide ((a0.Xs.Zm.length : Int) > 0))) || (decide ((a0.Xs.Z1.length : Int) > 0))) || (decide ((a0.Xs.ZE.length : Int) > 0))) || (decide ((a0.Xs.Zt.length : Int) > 0))) || (decide ((a0.Xs.Zs.length : Int) > 0)) then none else (some 0)) else none
noncomputable def M.QX (a0 : Zf) : Option Int :=
  (M.WC a0.Xm).bind fun r1 => bif !r1 then none else ((M.Qx a0.Gt 0 65535).bind fun r2 => bif !r2 then none else (gd [decide (0 ≤ 0), decide (0 < (10 : Int))] ((M.YL a0).bind fun r3 => bif r3 != 0 then none else (gd [decide (0 ≤ 1), decide (1 < (10 : Int))] ((M.Yx a0).bind fun r4 => bif r4 != 0 then none else (gd [decide (0 ≤ 2), decide (2 < (10 : Int))] ((M.Y6 a0).bind fun r5 => bif r5 != 0 then none else (gd [decide (0 ≤ 3), decide (3 < (10 : Int))] ((M.JK a0).bind fun r6 => bif r6 != 0 then none else (gd [decide (0 ≤ 4), decide (4 < (10 : Int))] ((M.Vb a0).bind fun r7 => bif r7 != 0 then none else (gd [decide (0 ≤ 5), decide (5 < (10 : Int))] ((M.Qy a0).bind fun r8 => bif r8 != 0 then none else (gd [decide (0 ≤ 6), decide (6 < (10 : Int))] ((M.Qz a0).bind fun r9 => bif r9 != 0 then none else (gd [decide (0 ≤ 7), decide (7 < (10 : Int))] ((M.Y7 a0).bind fun r10 => bif r10 != 0 then none else (gd [decide (0 ≤ 8), decide (8 < (10 : Int))] ((M.Yb a0).bind fun r11 => bif r11 != 0 then none else (gd [decide (0 ≤ 9), decide (9 < (10 : Int))] ((M.YM a0).bind fun r12 => bif r12 != 0 then none else (some 0))))))))))))))))))))))
noncomputable def M.JL (a0 : Zl) (b0 : Int) : Option Bool :=
  some ((a0.ZV != 0) && (a0.Zx == b0))
noncomputable def M.ZU (a0 : List Zl) (a1c0 : Int) (p1 : Int) : Option (Int ⊕ (Unit ⊕ Int)) :=
  bif decide (p1 < (a0.length : Int)) then ((M.JL (a0.getD p1.toNat default) a1c0).bind fun r3 => gd [decide (0 ≤ p1), decide (p1 < (a0.length : Int))] (bif r3 then (some (.inr (.inr p1))) else (some (.inl (wr .i64 (p1 + 1)))))) else (some (.inr (.inl ())))
noncomputable def M.ZL (a0 : List Zl) (a1c0 : Int) : Option Int :=
  (loopM (M.ZU a0 a1c0) 0).bind fun y4 => Sum.elim (fun _ => some (-1)) (fun y6 => some y6) y4
noncomputable def M.Vu (a0 : Zf) (a1 : Int) : Option Int :=
  (M.ZL a0.Zc a1).bind fun r1 => some r1
noncomputable def M.Y8 (a0 : Zl) (b0 : Zf) : Option Bool :=
  (gc (a0.ZV != 0) (M.Vu b0 a0.Zx)).bind fun r1 => some ((a0.ZV != 0) && (decide (r1 ≥ 0)))
noncomputable def M.ZI (a0 : List Zl) (a1c0 : Zf) (p1 : Int) : Option (Int ⊕ (Unit ⊕ Int)) :=
  bif decide (p1 < (a0.length : Int)) then ((M.Y8 (a0.getD p1.toNat default) a1c0).bind fun r3 => gd [decide (0 ≤ p1), decide (p1 < (a0.length : Int))] (bif r3 then (some (.inr (.inr p1))) else (some (.inl (wr .i64 (p1 + 1)))))) else (some (.inr (.inl ())))
noncomputable def M.ZD (a0 : List Zl) (a1c0 : Zf) : Option Int :=
  (loopM (M.ZI a0 a1c0) 0).bind fun y4 => Sum.elim (fun _ => some (-1)) (fun y6 => some y6) y4
noncomputable def M.ZA (a0 : List Zl) (a1c0 : Zf) : Option Bool :=
  (M.ZD a0 a1c0).bind fun r1 => some (decide (r1 ≥ 0))
noncomputable def M.QA (a0 : Zf) (a1 : Zf) : Option Bool :=
  (M.ZA a1.Zc a0).bind fun r1 => some r1
noncomputable def M.VA (a0 : ZB) (p1 : Int) (p4 : Int) : Option (Int ⊕ Unit) :=
  bif decide (p4 < ((p1.toNat - 0 : Nat) : Int)) then (gd [decide (0 ≤ p4), decide (p4 < (((a0.Zd.drop 0).take (p1.toNat - 0)).length : Int))] ((gc (!(strEq ((((a0.Zd.drop 0).take (p1.toNat - 0)).getD p4.toNat default).Xm) ((a0.Zd.getD p1.toNat default).Xm))) (M.QA (((a0.Zd.drop 0).take (p1.toNat - 0)).getD p4.toNat default) (a0.Zd.getD p1.toNat default))).bind fun r6 => bif (strEq ((((a0.Zd.drop 0).take (p1.toNat - 0)).getD p4.toNat default).Xm) ((a0.Zd.getD p1.toNat default).Xm)) || r6 then none else (some (.inl (wr .i64 (p4 + 1)))))) else (some (.inr ()))
noncomputable def M.VB (a0 : ZB) (p1 : Int) : Option (Int ⊕ Unit) :=
  bif decide (p1 < (a0.Zd.length : Int)) then (gd [decide (0 ≤ p1), decide (p1 < (a0.Zd.length : Int))] ((M.QX (a0.Zd.getD p1.toNat default)).bind fun r3 => bif r3 != 0 then none else (gd [decide (0 ≤ p1), decide (p1 ≤ (a0.Zd.length : Int))] ((loopM (M.VA a0 p1) 0).bind fun y7 => some (.inl (wr .i64 (p1 + 1))))))) else (some (.inr ()))
noncomputable def M.Wg (a0 : ZB) : Option Int :=
  bif decide ((a0.Zd.length : Int) > 8) then none else ((loopM (M.VB a0) 0).bind fun y8 => some 0)
noncomputable def M.Q6 (i : Int) (p : (List Zh) × (List (Xa × Int)) × Int) (q : (List Zh) × (List (Xa × Int)) × Int) : Option (((List Zh) × (List (Xa × Int)) × Int) ⊕ ((List Zh) × (List (Xa × Int)))) :=
  gd [decide (0 ≤ q.2.2), decide (q.2.2 < (q.1.length : Int)), decide (((q.1.getD (0 + q.2.2.toNat) default).ZT.length + 1) * 16 ≤ 140737488355328)] (some (.inl (q.1.set (0 + q.2.2.toNat) ⟨(q.1.getD (0 + q.2.2.toNat) default).Zo, (q.1.getD (0 + q.2.2.toNat) default).XE, (q.1.getD (0 + q.2.2.toNat) default).ZT ++ [⟨i, p.2.2⟩]⟩, q.2.1, wr .i64 (p.2.2 + 1))))
noncomputable def M.JM (a0 : ZB) (i : Int) (p : (List Zh) × (List (Xa × Int)) × Int) : Option (((List Zh) × (List (Xa × Int)) × Int) ⊕ ((List Zh) × (List (Xa × Int)))) :=
  bif decide (p.2.2 < (((a0.Zd.getD i.toNat default).Zc).length : Int)) then (gd [decide (0 ≤ p.2.2), decide (p.2.2 < (((a0.Zd.getD i.toNat default).Zc).length : Int))] (bif (((a0.Zd.getD i.toNat default).Zc.getD p.2.2.toNat default).ZV == 0) || ((a0.Zd.getD i.toNat default).Zc.getD p.2.2.toNat default).QY then (some (.inl (p.1, p.2.1, wr .i64 (p.2.2 + 1)))) else ((M.Jk ((a0.Zd.getD i.toNat default).Zc.getD p.2.2.toNat default).Zx ((a0.Zd.getD i.toNat default).Zc.getD p.2.2.toNat default).ZV).bind fun r => bif !(lkM (topoKeyEq ⟨r, ((a0.Zd.getD i.toNat default).Zc.getD p.2.2.toNat default).XE⟩) p.2.1).2 then (gd [decide ((p.1.length + 1) * 48 ≤ 140737488355328)] (M.Q6 i p (p.1 ++ [⟨r, ((a0.Zd.getD i.toNat default).Zc.getD p.2.2.toNat default).XE, []⟩], p.2.1 ++ [(⟨r, ((a0.Zd.getD i.toNat default).Zc.getD p.2.2.toNat default).XE⟩, (p.1.length : Int))], (p.1.length : Int)))) else (M.Q6 i p (p.1, p.2.1, (lkM (topoKeyEq ⟨r, ((a0.Zd.getD i.toNat default).Zc.getD p.2.2.toNat default).XE⟩) p.2.1).1))))) else (some (.inr (p.1, p.2.1)))
noncomputable def M.JN (a0 : ZB) (p : (List Zh) × (List (Xa × Int)) × Int) : Option (((List Zh) × (List (Xa × Int)) × Int) ⊕ (List Zh)) :=
  bif decide (p.2.2 < (a0.Zd.length : Int)) then (gd [decide (0 ≤ p.2.2), decide (p.2.2 < (a0.Zd.length : Int))] ((loopM (M.JM a0 p.2.2) (p.1, p.2.1, 0)).bind fun y => some (.inl (y.1, y.2, wr .i64 (p.2.2 + 1))))) else (some (.inr p.1))
noncomputable def M.VS (a0 : ZB) : Option (List Zh) :=
  (loopM (M.JN a0) ([], [], 0)).bind fun y => some y
noncomputable def M.YD (a0 : Int) : Option Bool :=
  some (a0 != a0)
noncomputable def M.YJ (a0 : Int) (a1 : Int) : Option Int :=
  (M.YD a0).bind fun r1 => (M.YD a1).bind fun r2 => bif r1 then (bif r2 then (some 0) else (some (-1))) else (bif r2 then (some 1) else (bif decide (a0 < a1) then (some (-1)) else (bif decide (a0 > a1) then (some 1) else (some 0))))
noncomputable def M.QM (a0 : Int) : Option Bool :=
  some (a0 != a0)
noncomputable def M.YQ (a0 : Int) (a1 : Int) : Option Int :=
  (M.QM a0).bind fun r1 => (M.QM a1).bind fun r2 => bif r1 then (bif r2 then (some 0) else (some (-1))) else (bif r2 then (some 1) else (bif decide (a0 < a1) then (some (-1)) else (bif decide (a0 > a1) then (some 1) else (some 0))))
noncomputable def M.Vc (a0 : ZZ) (a1 : ZZ) : Option Int :=
  (M.YJ a0.Zx a1.Zx).bind fun r1 => bif r1 != 0 then (some r1) else ((M.YQ a0.ZV a1.ZV).bind fun r2 => some r2)
noncomputable def M.Qp (a0 : List Int) (p1 : Int) : Option (Int ⊕ (Unit ⊕ Int)) :=
  bif decide (p1 < (a0.length : Int)) then (gd [decide (0 ≤ p1), decide (p1 < (a0.length : Int))] (bif (a0.getD p1.toNat default) != 0 then (some (.inr (.inr (a0.getD p1.toNat default)))) else (some (.inl (wr .i64 (p1 + 1)))))) else (some (.inr (.inl ())))
noncomputable def M.Wa (a0 : List Int) : Option Int :=
  (loopM (M.Qp a0) 0).bind fun y3 => Sum.elim (fun _ => some 0) (fun y5 => some y5) y3
noncomputable def M.JO (a0 : Zh) (a1 : Zh) : Option Int :=
  (M.Vc a0.Zo a1.Zo).bind fun r1 => (M.YQ a0.XE a1.XE).bind fun r2 => (M.Wa ([r1, r2] : List Int)).bind fun r3 => some r3
noncomputable def M.XD (a0 : List Zh) : Option (List Zh) :=
  sortU M.JO a0
noncomputable def M.JA (p5 : (List Int) × Int) (p7 : (List Int)) : Option (((List Int) × Int) ⊕ (List Int)) :=
  some (.inl (p7, wr .i64 (p5.2 + 1)))
noncomputable def M.VW (r3 : (List Zh)) (p5 : (List Int) × Int) : Option (((List Int) × Int) ⊕ (List Int)) :=
  bif decide (p5.2 < (r3.length : Int)) then (gd [decide (0 ≤ p5.2), decide (p5.2 < (r3.length : Int))] (bif decide ((((r3.getD p5.2.toNat default).ZT).length : Int) ≥ 2) then (gd [decide ((p5.1.length + 1) * 8 ≤ 140737488355328)] (M.JA p5 (p5.1 ++ [p5.2]))) else (M.JA p5 p5.1))) else (some (.inr p5.1))
noncomputable def M.WT (a0 : ZB) : Option (Qt × Int) :=
  (M.Wg a0).bind fun r1 => bif r1 != 0 then none else ((M.VS a0).bind fun r2 => (M.XD r2).bind fun r3 => gd [decide (r3.length = r2.length)] ((loopM (M.VW r3) (([] : List Int), 0)).bind fun y8 => bif decide ((y8.length : Int) > 12) then none else (some ((⟨r3, y8⟩ : Qt), 0))))
noncomputable def M.XO (a0 : List Zf) : Option (List Zf) :=
  gd [decide (0 = 0) || decide (0 < a0.length), decide ((0 + a0.length) * 448 ≤ 140737488355328)] (some a0)
noncomputable def M.Xn (a0 : List Zl) : Option (List Zl) :=
  gd [decide (0 = 0) || decide (0 < a0.length), decide ((0 + a0.length) * 112 ≤ 140737488355328)] (some a0)
noncomputable def M.Xh (a0 : List Z2) : Option (List Z2) :=
  gd [decide (0 = 0) || decide (0 < a0.length), decide ((0 + a0.length) * 40 ≤ 140737488355328)] (some a0)
noncomputable def M.Xu (a0 : List Ya) : Option (List Ya) :=
  gd [decide (0 = 0) || decide (0 < a0.length), decide ((0 + a0.length) * 40 ≤ 140737488355328)] (some a0)
noncomputable def M.X3 (a0 : List W3) : Option (List W3) :=
  gd [decide (0 = 0) || decide (0 < a0.length), decide ((0 + a0.length) * 40 ≤ 140737488355328)] (some a0)
noncomputable def M.Xe (a0 : List YT) : Option (List YT) :=
  gd [decide (0 = 0) || decide (0 < a0.length), decide ((0 + a0.length) * 64 ≤ 140737488355328)] (some a0)
noncomputable def M.Xf (a0 : List YU) : Option (List YU) :=
  gd [decide (0 = 0) || decide (0 < a0.length), decide ((0 + a0.length) * 64 ≤ 140737488355328)] (some a0)
noncomputable def M.Xo (a0 : List J4) : Option (List J4) :=
  gd [decide (0 = 0) || decide (0 < a0.length), decide ((0 + a0.length) * 24 ≤ 140737488355328)] (some a0)
noncomputable def M.Z8 (a0 : List YK) : Option (List YK) :=
  gd [decide (0 = 0) || decide (0 < a0.length), decide ((0 + a0.length) * 48 ≤ 140737488355328)] (some a0)
noncomputable def M.Xv (a0 : List Jv) : Option (List Jv) :=
  gd [decide (0 = 0) || decide (0 < a0.length), decide ((0 + a0.length) * 48 ≤ 140737488355328)] (some a0)
noncomputable def M.XP (a0 : List ZZ) : Option (List ZZ) :=
  gd [decide (0 = 0) || decide (0 < a0.length), decide ((0 + a0.length) * 16 ≤ 140737488355328)] (some a0)
noncomputable def M.Xp (a0 : List J5) : Option (List J5) :=
  gd [decide (0 = 0) || decide (0 < a0.length), decide ((0 + a0.length) * 24 ≤ 140737488355328)] (some a0)
noncomputable def M.Xq (a0 : List J6) : Option (List J6) :=
  gd [decide (0 = 0) || decide (0 < a0.length), decide ((0 + a0.length) * 40 ≤ 140737488355328)] (some a0)
noncomputable def M.Q7 (r2 : (List Z2)) (p3 : Int) : Option (Int ⊕ Unit) :=
  bif decide (p3 < (r2.length : Int)) then none else (some (.inr ()))
noncomputable def M.Q8 (r6 : (List Ya)) (p7 : Int) : Option (Int ⊕ Unit) :=
  bif decide (p7 < (r6.length : Int)) then none else (some (.inr ()))
noncomputable def M.Q9 (r10 : (List W3)) (p11 : Int) : Option (Int ⊕ Unit) :=
  bif decide (p11 < (r10.length : Int)) then none else (some (.inr ()))
noncomputable def M.JP (a0 : Zf) : Option Zf :=
  (M.Xn a0.Zc).bind fun r1 => (M.Xh a0.Yw).bind fun r2 => (loopM (M.Q7 r2) 0).bind fun y5 => (M.Xu a0.XF).bind fun r6 => (loopM (M.Q8 r6) 0).bind fun y9 => (M.X3 a0.YF).bind fun r10 => (loopM (M.Q9 r10) 0).bind fun y13 => (M.Xe a0.Xc).bind fun r14 => (M.Xf a0.Zr).bind fun r15 => (M.Xo a0.Yh.Z6).bind fun r16 => (M.Z8 a0.Yh.Zs).bind fun r17 => (M.Z8 a0.Yo.Zs).bind fun r18 => (M.Xv a0.Xs.Zm).bind fun r19 => (M.XP a0.Xs.Z1).bind fun r20 => (M.Xp a0.Xs.ZE).bind fun r21 => (M.Xq a0.Xs.Zt).bind fun r22 => (M.Z8 a0.Xs.Zs).bind fun r23 => some (⟨a0.Xm, a0.Gt, r1, r2, r6, r10, r14, r15, (⟨a0.Yh.Vw, a0.Yh.Xr, r16, r17⟩ : Vj), (⟨a0.Yo.Vw, a0.Yo.Xr, a0.Yo.VQ, a0.Yo.Qa, r18⟩ : YE), (⟨a0.Xs.Vw, a0.Xs.XZ, a0.Xs.X0, r19, r20, r21, r22, r23⟩ : Xy)⟩ : Zf)
noncomputable def M.QN (r1 : (List Zf)) (p2 : (List Zf) × Int) : Option (((List Zf) × Int) ⊕ (List Zf)) :=
  bif decide (p2.2 < (r1.length : Int)) then ((M.JP (p2.1.getD (0 + p2.2.toNat) default)).bind fun r4 => gd [decide (0 ≤ p2.2), decide (p2.2 < (p2.1.length : Int)), decide (0 ≤ p2.2), decide (p2.2 < (p2.1.length : Int))] (some (.inl (p2.1.set (0 + p2.2.toNat) r4, wr .i64 (p2.2 + 1))))) else (some (.inr p2.1))
noncomputable def M.Jl (a0 : ZB) : Option ZB :=
  (M.XO a0.Zd).bind fun r1 => (loopM (M.QN r1) (r1, 0)).bind fun y5 => some (⟨y5⟩ : ZB)
noncomputable def M.Y9 (a0 : List Int) : Option (List Int) :=
  gd [decide (0 = 0) || decide (0 < a0.length), decide ((0 + a0.length) * 8 ≤ 140737488355328)] (some a0)
noncomputable def M.Wh (a1 : List Int) (r1 : Qt × Int) (p2 : Int) : Option (Int ⊕ Unit) :=
  bif decide (p2 < (a1.length : Int)) then (gd [decide (0 ≤ p2), decide (p2 < (a1.length : Int))] (gd [guardB ((!((decide ((a1.getD p2.toNat default) < 0)) || (decide ((a1.getD p2.toNat default) ≥ (r1.1.YC.length : Int))))) && (decide (p2 > 0))) (decide (0 ≤ (wr .i64 (p2 - 1)))), guardB ((!((decide ((a1.getD p2.toNat default) < 0)) || (decide ((a1.getD p2.toNat default) ≥ (r1.1.YC.length : Int))))) && (decide (p2 > 0))) (decide ((wr .i64 (p2 - 1)) < (a1.length : Int)))] (bif ((decide ((a1.getD p2.toNat default) < 0)) || (decide ((a1.getD p2.toNat default) ≥ (r1.1.YC.length : Int)))) || ((decide (p2 > 0)) && (decide ((a1.getD p2.toNat default) ≤ (a1.getD (wr .i64 (p2 - 1)).toNat default)))) then none else (some (.inl (wr .i64 (p2 + 1))))))) else (some (.inr ()))
noncomputable def M.WF (a0 : ZB) (a1 : List Int) : Option (XM × Int) :=
  (M.WT a0).bind fun r1 => bif r1.2 != 0 then none else (bif decide ((a1.length : Int) > 2) then none else ((loopM (M.Wh a1 r1) 0).bind fun y4 => (M.Jl a0).bind fun r5 => (M.Y9 a1).bind fun r6 => some ((⟨r5, r1.1, r6⟩ : XM), 0)))
noncomputable def M.WU  : Option Bool :=
  (M.V8).bind fun r1 => (M.WF r1 ([] : List Int)).bind fun r2 => (M.V8).bind fun r3 => (M.WF r3 ([0] : List Int)).bind fun r4 => (gc ((((r2.2 == 0) && (r4.2 == 0)) && ((r2.1.Xd.Zv.length : Int) == 2)) && ((r2.1.Xd.YC.length : Int) == 1)) (M.Vg r2.1 0 0)).bind fun r5 => (gc (((((r2.2 == 0) && (r4.2 == 0)) && ((r2.1.Xd.Zv.length : Int) == 2)) && ((r2.1.Xd.YC.length : Int) == 1)) && r5) (M.Vg r4.1 0 0)).bind fun r6 => (gc ((((((r2.2 == 0) && (r4.2 == 0)) && ((r2.1.Xd.Zv.length : Int) == 2)) && ((r2.1.Xd.YC.length : Int) == 1)) && r5) && (!r6)) (M.Vg r4.1 1 1)).bind fun r7 => some (((((((r2.2 == 0) && (r4.2 == 0)) && ((r2.1.Xd.Zv.length : Int) == 2)) && ((r2.1.Xd.YC.length : Int) == 1)) && r5) && (!r6)) && r7)
noncomputable def M.Uu (a0 : ZB) (a1 : List Int) (a2 : Int) (a3 : Int) (a4 : Int) : Option Bool :=
  (M.Ux a0 a1).bind fun r1 => bif !r1.2 then (some true) else ((M.GE r1.1 a2 a3 a4).bind fun r2 => (M.Gi r1.1 a2 a3 a4).bind fun r3 => (M.Yr r1.1 a2 a3).bind fun r4 => (M.Qw r1.1 a2 a3).bind fun r5 => (gc (r4 == r5) (M.Jw r1.1 a2 a3)).bind fun r6 => (gc (r4 == r5) (M.VJ r1.1 a2 a3)).bind fun r7 => (gc ((r4 == r5) && (r6 == r7)) (M.Vg r1.1 a2 a3)).bind fun r8 => (gc ((r4 == r5) && (r6 == r7)) (M.Uh r1.1 a2 a3)).bind fun r9 => (gc (((r4 == r5) && (r6 == r7)) && (r8 == r9)) (M.WB r1.1 a2 a3)).bind fun r10 => (gc (((r4 == r5) && (r6 == r7)) && (r8 == r9)) (M.Wc r1.1 a2 a3)).bind fun r11 => (gc (((r4 == r5) && (r6 == r7)) && (r8 == r9)) (M.W5 r10 r11)).bind fun r12 => (gc ((((((r4 == r5) && (r6 == r7)) && (r8 == r9)) && r12) && ((r2.1.XJ == r3.1.XJ) && ((r2.1.XY == r3.1.XY) && true))) && (r2.2 == r3.2)) M.WU).bind fun r13 => some (((((((r4 == r5) && (r6 == r7)) && (r8 == r9)) && r12) && ((r2.1.XJ == r3.1.XJ) && ((r2.1.XY == r3.1.XY) && true))) && (r2.2 == r3.2)) && r13))
end Nv
