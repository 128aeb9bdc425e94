/- The mirrors: what each function of the given program computes, in plain terms. -/
import Derived.Test.YtaienbkgekjdnaaGreatNvLibB
import Derived.Test.YtaienbkgekjdnaaGreatNvLibD
import Derived.Test.YtaienbkgekjdnaaGreatNvLibC
set_option maxRecDepth 100000
namespace Nv
open Go
structure Zl where
  Xl : ByteArray
  Zs : Int
  ZR : Int
  XB : Int
  V0 : Bool
  Yf : Bool
  VQ : Int
  Zbz : Int
  Ym : Bool
  VG : ByteArray
  Y7 : ByteArray
  Rl : Int
  deriving Inhabited
def Zj (x : Zl) : List D := [.str x.Xl, .int .u32 x.Zs, .int .i64 x.ZR, .int .i64 x.XB, .bool x.V0, .bool x.Yf, .int .i64 x.VQ, .int .i64 x.Zbz, .bool x.Ym, .str x.VG, .str x.Y7, .int .i64 x.Rl]
structure ZX where
  Zs : Int
  ZR : Int
  deriving Inhabited
def Xg (x : ZX) : List D := [.int .u32 x.Zs, .int .i64 x.ZR]
structure W6 where
  ZbA : Bool
  Zo : ZX
  Zh2 : Int
  Zh3 : Int
  deriving Inhabited
def GQ (x : W6) : List D := [.bool x.ZbA, .int .u32 x.Zo.Zs, .int .i64 x.Zo.ZR, .int .i64 x.Zh2, .int .i64 x.Zh3]
structure Z2 where
  Xl : ByteArray
  YG : List W6
  deriving Inhabited
def Zu (x : Z2) : List D := [.str x.Xl, sL 5 GQ x.YG]
structure R6 where
  ZbA : Bool
  JZ : ByteArray
  Kr : Int
  Gl : Int
  ZbB : Int
  Rm : Int
  Rn : Int
  deriving Inhabited
def ZeS (x : R6) : List D := [.bool x.ZbA, .str x.JZ, .int .i64 x.Kr, .int .i64 x.Gl, .int .i64 x.ZbB, .int .i64 x.Rm, .int .i64 x.Rn]
structure X6 where
  Xl : ByteArray
  XZ : List R6
  deriving Inhabited
def ZY (x : X6) : List D := [.str x.Xl, sL 7 ZeS x.XZ]
structure R7 where
  Zs : Int
  Gb : Int
  deriving Inhabited
def Zgl (x : R7) : List D := [.int .u32 x.Zs, .int .u32 x.Gb]
structure Vz where
  G8 : Int
  KQ : Int
  deriving Inhabited
def Ks (x : Vz) : List D := [.int .i64 x.G8, .int .i64 x.KQ]
structure Zd4 where
  ZbA : Bool
  YQ : Int
  ZaP : R7
  ZaQ : R7
  Ud : Vz
  Ue : Vz
  deriving Inhabited
def Zfq (x : Zd4) : List D := [.bool x.ZbA, .int .i64 x.YQ, .int .u32 x.ZaP.Zs, .int .u32 x.ZaP.Gb, .int .u32 x.ZaQ.Zs, .int .u32 x.ZaQ.Gb, .int .i64 x.Ud.G8, .int .i64 x.Ud.KQ, .int .i64 x.Ue.G8, .int .i64 x.Ue.KQ]
structure WV where
  Xl : ByteArray
  YG : List Zd4
  deriving Inhabited
def Ys (x : WV) : List D := [.str x.Xl, sL 10 Zfq x.YG]
structure YR where
  Wj : Int
  Jz : Int
  Qz : Int
  YQ : Int
  JO : Int
  Je : Int
  JZ : ByteArray
  G8 : Int
  KQ : Int
  deriving Inhabited
def Z3 (x : YR) : List D := [.int .i64 x.Wj, .int .u32 x.Jz, .int .u32 x.Qz, .int .i64 x.YQ, .int .i64 x.JO, .int .i64 x.Je, .str x.JZ, .int .u32 x.G8, .int .u32 x.KQ]
structure YS where
  Zo : ZX
  UG : Int
  XY : ByteArray
  Zd5 : Bool
  Xq : Int
  Kr : Int
  deriving Inhabited
def Xc (x : YS) : List D := [.int .u32 x.Zo.Zs, .int .i64 x.Zo.ZR, .int .u32 x.UG, .str x.XY, .bool x.Zd5, .int .i64 x.Xq, .int .i64 x.Kr]
structure J0 where
  VQ : Int
  Zo : ZX
  deriving Inhabited
def Xx (x : J0) : List D := [.int .i64 x.VQ, .int .u32 x.Zo.Zs, .int .i64 x.Zo.ZR]
structure YJ where
  Gm : Int
  ZbC : Int
  Kr : Int
  Zcj : ByteArray
  ZcO : Int
  deriving Inhabited
def Zx (x : YJ) : List D := [.int .i64 x.Gm, .int .i64 x.ZbC, .int .i64 x.Kr, .str x.Zcj, .int .i64 x.ZcO]
structure Vf where
  Vq : Bool
  Xq : Int
  Z6 : List J0
  Zr : List YJ
  deriving Inhabited
def ZbD (x : Vf) : List D := [.bool x.Vq, .int .i64 x.Xq, sL 3 Xx x.Z6, sL 5 Zx x.Zr]
structure YB where
  Vq : Bool
  Xq : Int
  VG : ByteArray
  Y7 : ByteArray
  Zr : List YJ
  deriving Inhabited
def ZbE (x : YB) : List D := [.bool x.Vq, .int .i64 x.Xq, .str x.VG, .str x.Y7, sL 5 Zx x.Zr]
structure Jt where
  Zs : Int
  Ge : Int
  VG : ByteArray
  Y7 : ByteArray
  deriving Inhabited
def XI (x : Jt) : List D := [.int .u32 x.Zs, .int .i64 x.Ge, .str x.VG, .str x.Y7]
structure J1 where
  Zo : ZX
  Zle : Bool
  deriving Inhabited
def Xy (x : J1) : List D := [.int .u32 x.Zo.Zs, .int .i64 x.Zo.ZR, .bool x.Zle]
structure J2 where
  Zo : ZX
  fIf : ZX
  Zks : Bool
  deriving Inhabited
def Xs (x : J2) : List D := [.int .u32 x.Zo.Zs, .int .i64 x.Zo.ZR, .int .u32 x.fIf.Zs, .int .i64 x.fIf.ZR, .bool x.Zks]
structure Xw where
  Vq : Bool
  XU : Int
  XV : Int
  Zm : List Jt
  Z0 : List ZX
  ZC : List J1
  Zt : List J2
  Zr : List YJ
  deriving Inhabited
def UZ (x : Xw) : List D := [.bool x.Vq, .int .i64 x.XU, .int .i64 x.XV, sL 4 XI x.Zm, sL 2 Xg x.Z0, sL 3 Xy x.ZC, sL 5 Xs x.Zt, sL 5 Zx x.Zr]
structure Zf where
  Xl : ByteArray
  Ge : Int
  Zc : List Zl
  Yt : List Z2
  XC : List X6
  YC : List WV
  Xd : List YR
  Zq : List YS
  Yf : Vf
  Ym : YB
  Xr : Xw
  deriving Inhabited
def Zp (x : Zf) : List D := [.str x.Xl, .int .i64 x.Ge, sL 12 Zj x.Zc, sL 2 Zu x.Yt, sL 2 ZY x.XC, sL 2 Ys x.YC, sL 9 Z3 x.Xd, sL 7 Xc x.Zq, .bool x.Yf.Vq, .int .i64 x.Yf.Xq, sL 3 Xx x.Yf.Z6, sL 5 Zx x.Yf.Zr, .bool x.Ym.Vq, .int .i64 x.Ym.Xq, .str x.Ym.VG, .str x.Ym.Y7, sL 5 Zx x.Ym.Zr, .bool x.Xr.Vq, .int .i64 x.Xr.XU, .int .i64 x.Xr.XV, sL 4 XI x.Xr.Zm, sL 2 Xg x.Xr.Z0, sL 3 Xy x.Xr.ZC, sL 5 Xs x.Xr.Zt, sL 5 Zx x.Xr.Zr]
structure Zw where
  Zd : List Zf
  deriving Inhabited
def XO (x : Zw) : List D := [sL 25 Zp x.Zd]
structure X8 where
  Z5 : Int
  XY : Int
  deriving Inhabited
def ZW (x : X8) : List D := [.int .i64 x.Z5, .int .i64 x.XY]
structure Zg where
  Zo : ZX
  XB : Int
  ZZ : List X8
  deriving Inhabited
def ZD (x : Zg) : List D := [.int .u32 x.Zo.Zs, .int .i64 x.Zo.ZR, .int .i64 x.XB, sL 2 ZW x.ZZ]
structure Qs where
  Z1 : List Zg
  QA : List Int
  deriving Inhabited
def GI (x : Qs) : List D := [sL 4 ZD x.Z1, sL 1 (ci .i64) x.QA]
structure X3 where
  Qq : Zw
  XW : Qs
  V0 : List Int
  deriving Inhabited
def Vc (x : X3) : List D := [sL 25 Zp x.Qq.Zd, sL 4 ZD x.XW.Z1, sL 1 (ci .i64) x.XW.QA, sL 1 (ci .i64) x.V0]
structure Xa where
  R8 : ZX
  Zjw : Int
  deriving Inhabited
def Z7 (x : Xa) : List D := [.int .u32 x.R8.Zs, .int .i64 x.R8.ZR, .int .i64 x.Zjw]
def hdDom (x : Zg) : List D := [.int .u32 x.Zo.Zs, .int .i64 x.Zo.ZR, .int .i64 x.XB]
def topoKeyEq (a b : Xa) : Bool := (((a.R8.Zs == b.R8.Zs) && ((a.R8.ZR == b.R8.ZR) && true)) && ((a.Zjw == b.Zjw) && true))
noncomputable def M.Vh (a0 : Zf) (p1 : Int) : Option (Int ⊕ (Unit ⊕ Bool)) :=
  bif decide (p1 < (a0.Yt.length : Int)) then (gd [decide (0 ≤ p1), decide (p1 < (a0.Yt.length : Int))] (bif decide ((((a0.Yt.getD p1.toNat default).YG).length : Int) > 20) then (some (.inr (.inr false))) else (some (.inl (wr .i64 (p1 + 1)))))) else (some (.inr (.inl ())))
noncomputable def M.Vi (a0 : Zf) (p6 : Int) : Option (Int ⊕ (Unit ⊕ Bool)) :=
  bif decide (p6 < (a0.XC.length : Int)) then (gd [decide (0 ≤ p6), decide (p6 < (a0.XC.length : Int))] (bif decide ((((a0.XC.getD p6.toNat default).XZ).length : Int) > 12) then (some (.inr (.inr false))) else (some (.inl (wr .i64 (p6 + 1)))))) else (some (.inr (.inl ())))
noncomputable def M.Vj (a0 : Zf) (p11 : Int) : Option (Int ⊕ (Unit ⊕ Bool)) :=
  bif decide (p11 < (a0.YC.length : Int)) then (gd [decide (0 ≤ p11), decide (p11 < (a0.YC.length : Int))] (bif decide ((((a0.YC.getD p11.toNat default).YG).length : Int) > 20) then (some (.inr (.inr false))) else (some (.inl (wr .i64 (p11 + 1)))))) else (some (.inr (.inl ())))
noncomputable def M.Vg (a0 : Zf) : Option Bool :=
  bif (((((((((((((decide ((a0.Zc.length : Int) > 12)) || (decide ((a0.Yt.length : Int) > 12))) || (decide ((a0.XC.length : Int) > 12))) || (decide ((a0.YC.length : Int) > 12))) || (decide ((a0.Xd.length : Int) > 12))) || (decide ((a0.Zq.length : Int) > 20))) || (decide ((a0.Yf.Z6.length : Int) > 8))) || (decide ((a0.Yf.Zr.length : Int) > 8))) || (decide ((a0.Ym.Zr.length : Int) > 8))) || (decide ((a0.Xr.Zr.length : Int) > 8))) || (decide ((a0.Xr.Zm.length : Int) > 12))) || (decide ((a0.Xr.Z0.length : Int) > 12))) || (decide ((a0.Xr.ZC.length : Int) > 12))) || (decide ((a0.Xr.Zt.length : Int) > 12)) then (some false) else ((loopM (M.Vh a0) 0).bind fun y3 => Sum.elim (fun _ => (loopM (M.Vi a0) 0).bind fun y8 => Sum.elim (fun _ => (loopM (M.Vj a0) 0).bind fun y13 => Sum.elim (fun _ => some true) (fun y15 => some y15) y13) (fun y10 => some y10) y8) (fun y5 => some y5) y3)
noncomputable def M.Qj (a0 : Zw) (p1 : Int) : Option (Int ⊕ (Unit ⊕ Bool)) :=
  bif decide (p1 < (a0.Zd.length : Int)) then ((M.Vg (a0.Zd.getD p1.toNat default)).bind fun r3 => gd [decide (0 ≤ p1), decide (p1 < (a0.Zd.length : Int))] (bif !r3 then (some (.inr (.inr false))) else (some (.inl (wr .i64 (p1 + 1)))))) else (some (.inr (.inl ())))
noncomputable def M.JP (a0 : Zw) : Option Bool :=
  bif decide ((a0.Zd.length : Int) > 9) then (some false) else ((loopM (M.Qj a0) 0).bind fun y4 => Sum.elim (fun _ => some true) (fun y6 => some y6) y4)
noncomputable def M.Vr (a0 : Int) : Option Bool :=
  some (((decide (a0 ≥ 97)) && (decide (a0 ≤ 122))) || ((decide (a0 ≥ 65)) && (decide (a0 ≤ 90))))
noncomputable def M.VH (a0 : ByteArray) (p2 : Int) : Option (Int ⊕ (Unit ⊕ Bool)) :=
  bif decide (p2 < (a0.size : Int)) then (gd [decide (0 ≤ p2), decide (p2 < (a0.size : Int))] ((M.Vr (byteAt a0 p2)).bind fun r4 => bif (((((!r4) && (!((decide ((byteAt a0 p2) ≥ 48)) && (decide ((byteAt a0 p2) ≤ 57))))) && ((byteAt a0 p2) != 45)) && ((byteAt a0 p2) != 95)) && ((byteAt a0 p2) != 47)) && ((byteAt a0 p2) != 46) then (some (.inr (.inr false))) else (some (.inl (wr .i64 (p2 + 1)))))) else (some (.inr (.inl ())))
noncomputable def M.QX (a0 : ByteArray) : Option Bool :=
  (gc (!((decide ((a0.size : Int) < 1)) || (decide ((a0.size : Int) > 15)))) (M.Vr (byteAt a0 0))).bind fun r1 => gd [guardB (!((decide ((a0.size : Int) < 1)) || (decide ((a0.size : Int) > 15)))) (decide (0 ≤ 0)), guardB (!((decide ((a0.size : Int) < 1)) || (decide ((a0.size : Int) > 15)))) (decide (0 < (a0.size : Int)))] (bif ((decide ((a0.size : Int) < 1)) || (decide ((a0.size : Int) > 15))) || (!r1) then (some false) else ((loopM (M.VH a0) 1).bind fun y5 => Sum.elim (fun _ => some true) (fun y7 => some y7) y5))
noncomputable def M.ZT (a0 : Int) (a1 : Int) (a2 : Int) : Option Bool :=
  some ((decide (a1 ≤ a0)) && (decide (a0 ≤ a2)))
noncomputable def M.UH (p1 : Int × Int) (p3 : Int) : Option ((Int × Int) ⊕ Int) :=
  some (.inl (p3, wr .i64 (p1.2 + 1)))
noncomputable def M.WH (a0 : Int) (p1 : Int × Int) : Option ((Int × Int) ⊕ Int) :=
  bif decide (p1.2 < 32) then (bif decide (p1.2 < a0) then (gd [decide (0 ≤ (wr .u64 (wr .i64 (31 - p1.2))))] (M.UH p1 (bitD .or .u32 p1.1 (wr .u32 (1 * 2 ^ min (wr .u64 (wr .i64 (31 - p1.2))).toNat 32))))) else (M.UH p1 p1.1)) else (some (.inr p1.1))
noncomputable def M.Jf (a0 : Int) : Option Int :=
  (loopM (M.WH a0) (0, 0)).bind fun y4 => some y4
noncomputable def M.Qt (a0 : Int) (a1 : Int) : Option ZX :=
  (M.Jf (if 0 > (if 32 < a1 then 32 else a1) then 0 else (if 32 < a1 then 32 else a1))).bind fun r1 => some (⟨bitD .and .u32 a0 r1, if 0 > (if 32 < a1 then 32 else a1) then 0 else (if 32 < a1 then 32 else a1)⟩ : ZX)
noncomputable def M.JX (a0 : ZX) (a1 : Int) : Option Bool :=
  (M.Jf a0.ZR).bind fun r1 => some ((bitD .and .u32 a1 r1) == a0.Zs)
noncomputable def M.JQ (a0 : ZX) (a1 : ZX) : Option Bool :=
  (gc (decide (a0.ZR ≤ a1.ZR)) (M.JX a0 a1.Zs)).bind fun r1 => some ((decide (a0.ZR ≤ a1.ZR)) && r1)
noncomputable def M.Qm (a0 : ZX) (a1 : ZX) : Option Bool :=
  (M.JQ a0 a1).bind fun r1 => (gc (!r1) (M.JQ a1 a0)).bind fun r2 => some (r1 || r2)
noncomputable def M.YH (a0 : List Zl) (p1 : Int) (p4 : Int) : Option (Int ⊕ (Unit ⊕ Int)) :=
  bif decide (p4 < p1) then (gd [decide (0 ≤ p4), decide (p4 < (a0.length : Int))] (bif strEq ((a0.getD p4.toNat default).Xl) ((a0.getD p1.toNat default).Xl) then (some (.inr (.inr 4))) else (some (.inl (wr .i64 (p4 + 1)))))) else (some (.inr (.inl ())))
noncomputable def M.Yn (a0 : List Zl) (p1 : Int) (p14 : Int) : Option (Int ⊕ (Unit ⊕ Int)) :=
  bif decide (p14 < p1) then ((gc ((((a0.getD p1.toNat default).ZR) != 0) && (((a0.getD p14.toNat default).ZR) != 0)) (M.Qt ((a0.getD p1.toNat default).Zs) ((a0.getD p1.toNat default).ZR))).bind fun r16 => (gc ((((a0.getD p1.toNat default).ZR) != 0) && (((a0.getD p14.toNat default).ZR) != 0)) (M.Qt ((a0.getD p14.toNat default).Zs) ((a0.getD p14.toNat default).ZR))).bind fun r17 => (gc ((((a0.getD p1.toNat default).ZR) != 0) && (((a0.getD p14.toNat default).ZR) != 0)) (M.Qm r16 r17)).bind fun r18 => gd [guardB (((a0.getD p1.toNat default).ZR) != 0) (decide (0 ≤ p14)), guardB (((a0.getD p1.toNat default).ZR) != 0) (decide (p14 < (a0.length : Int))), guardB ((((a0.getD p1.toNat default).ZR) != 0) && (((a0.getD p14.toNat default).ZR) != 0)) (decide (0 ≤ p14)), guardB ((((a0.getD p1.toNat default).ZR) != 0) && (((a0.getD p14.toNat default).ZR) != 0)) (decide (p14 < (a0.length : Int))), guardB ((((a0.getD p1.toNat default).ZR) != 0) && (((a0.getD p14.toNat default).ZR) != 0)) (decide (0 ≤ p14)), guardB ((((a0.getD p1.toNat default).ZR) != 0) && (((a0.getD p14.toNat default).ZR) != 0)) (decide (p14 < (a0.length : Int)))] (bif ((((a0.getD p1.toNat default).ZR) != 0) && (((a0.getD p14.toNat default).ZR) != 0)) && r18 then (some (.inr (.inr 6))) else (some (.inl (wr .i64 (p14 + 1)))))) else (some (.inr (.inl ())))
noncomputable def M.Yo (a0 : List Zl) (p1 : Int) : Option (Int ⊕ (Unit ⊕ Int)) :=
  bif decide (p1 < (a0.length : Int)) then (gd [decide (0 ≤ p1), decide (p1 < (a0.length : Int))] ((M.QX ((a0.getD p1.toNat default).Xl)).bind fun r3 => bif !r3 then (some (.inr (.inr 3))) else ((loopM (M.YH a0 p1) 0).bind fun y6 => Sum.elim (fun _ => (M.ZT ((a0.getD p1.toNat default).ZR) 0 32).bind fun r9 => (gc (!(!r9)) (M.ZT ((a0.getD p1.toNat default).XB) 0 4094)).bind fun r10 => (gc (!((!r9) || (!r10))) (M.ZT ((a0.getD p1.toNat default).Rl) 0 2)).bind fun r11 => bif ((!r9) || (!r10)) || (!r11) then (some (.inr (.inr 1))) else (bif ((((a0.getD p1.toNat default).ZR) == 0) && (((((((((a0.getD p1.toNat default).Zs) != 0) || (((a0.getD p1.toNat default).XB) != 0)) || (((a0.getD p1.toNat default).Rl) != 0)) || ((a0.getD p1.toNat default).Yf)) || ((a0.getD p1.toNat default).Ym)) || (!strEq ((a0.getD p1.toNat default).VG) (⟨#[]⟩ : ByteArray))) || (!strEq ((a0.getD p1.toNat default).Y7) (⟨#[]⟩ : ByteArray)))) || ((((a0.getD p1.toNat default).ZR) != 0) && (((a0.getD p1.toNat default).Zs) == 0)) then (some (.inr (.inr 1))) else ((gc ((a0.getD p1.toNat default).Yf) (M.ZT ((a0.getD p1.toNat default).VQ) 0 255)).bind fun r12 => (gc (((a0.getD p1.toNat default).Yf) && !(!r12)) (M.ZT ((a0.getD p1.toNat default).Zbz) 1 65535)).bind fun r13 => bif (((a0.getD p1.toNat default).Yf) && ((!r12) || (!r13))) || ((!((a0.getD p1.toNat default).Yf)) && ((((a0.getD p1.toNat default).VQ) != 0) || (((a0.getD p1.toNat default).Zbz) != 0))) then (some (.inr (.inr 1))) else ((loopM (M.Yn a0 p1) 0).bind fun y19 => Sum.elim (fun _ => some (.inl (wr .i64 (p1 + 1)))) (fun y21 => some (.inr (.inr y21))) y19)))) (fun y8 => some (.inr (.inr y8))) y6))) else (some (.inr (.inl ())))
noncomputable def M.Yb (a0 : List Zl) : Option Int :=
  bif decide ((a0.length : Int) > 8) then (some 7) else ((loopM (M.Yo a0) 0).bind fun y22 => Sum.elim (fun _ => some 0) (fun y24 => some y24) y22)
noncomputable def M.Y8 (a0 : ZX) : Option Bool :=
  (gc ((decide (a0.ZR ≥ 0)) && (decide (a0.ZR ≤ 32))) (M.Jf a0.ZR)).bind fun r1 => some (((decide (a0.ZR ≥ 0)) && (decide (a0.ZR ≤ 32))) && ((bitD .andNot .u32 a0.Zs r1) == 0))
noncomputable def M.YT (a0 : W6) : Option Bool :=
  (M.Y8 a0.Zo).bind fun r1 => some (((r1 && (decide (a0.Zo.ZR ≤ a0.Zh2))) && (decide (a0.Zh2 ≤ a0.Zh3))) && (decide (a0.Zh3 ≤ 32)))
noncomputable def M.Qc (a0 : List Z2) (p1 : Int) (p4 : Int) : Option (Int ⊕ (Unit ⊕ Int)) :=
  bif decide (p4 < p1) then (gd [decide (0 ≤ p4), decide (p4 < (a0.length : Int)), decide (0 ≤ p1), decide (p1 < (a0.length : Int))] (bif strEq ((a0.getD p4.toNat default).Xl) ((a0.getD p1.toNat default).Xl) then (some (.inr (.inr 4))) else (some (.inl (wr .i64 (p4 + 1)))))) else (some (.inr (.inl ())))
noncomputable def M.Qd (a0 : List Z2) (p1 : Int) (p9 : Int) : Option (Int ⊕ (Unit ⊕ Int)) :=
  gd [decide (0 ≤ p1), decide (p1 < (a0.length : Int))] (bif decide (p9 < (((a0.getD p1.toNat default).YG).length : Int)) then ((M.YT (((a0.getD p1.toNat default).YG).getD p9.toNat default)).bind fun r11 => gd [decide (0 ≤ p1), decide (p1 < (a0.length : Int)), decide (0 ≤ p9), decide (p9 < (((a0.getD p1.toNat default).YG).length : Int))] (bif !r11 then (some (.inr (.inr 1))) else (some (.inl (wr .i64 (p9 + 1)))))) else (some (.inr (.inl ()))))
noncomputable def M.Qe (a0 : List Z2) (p1 : Int) : Option (Int ⊕ (Unit ⊕ Int)) :=
  bif decide (p1 < (a0.length : Int)) then ((M.QX ((a0.getD p1.toNat default).Xl)).bind fun r3 => gd [decide (0 ≤ p1), decide (p1 < (a0.length : Int))] (bif !r3 then (some (.inr (.inr 3))) else ((loopM (M.Qc a0 p1) 0).bind fun y6 => Sum.elim (fun _ => gd [decide (0 ≤ p1), decide (p1 < (a0.length : Int))] (bif (((a0.getD p1.toNat default).YG).length : Int) == 0 then (some (.inr (.inr 1))) else (gd [decide (0 ≤ p1), decide (p1 < (a0.length : Int))] (bif decide ((((a0.getD p1.toNat default).YG).length : Int) > 16) then (some (.inr (.inr 7))) else ((loopM (M.Qd a0 p1) 0).bind fun y12 => Sum.elim (fun _ => some (.inl (wr .i64 (p1 + 1)))) (fun y14 => some (.inr (.inr y14))) y12))))) (fun y8 => some (.inr (.inr y8))) y6))) else (some (.inr (.inl ())))
noncomputable def M.Qk (a0 : List Z2) : Option Int :=
  bif decide ((a0.length : Int) > 8) then (some 7) else ((loopM (M.Qe a0) 0).bind fun y15 => Sum.elim (fun _ => some 0) (fun y17 => some y17) y15)
noncomputable def M.Qu (a0 : Zf) (a1 : ByteArray) (p1 : Int) : Option (Int ⊕ (Unit ⊕ Int)) :=
  bif decide (p1 < (a0.Yt.length : Int)) then (gd [decide (0 ≤ p1), decide (p1 < (a0.Yt.length : Int))] (bif strEq ((a0.Yt.getD p1.toNat default).Xl) a1 then (some (.inr (.inr p1))) else (some (.inl (wr .i64 (p1 + 1)))))) else (some (.inr (.inl ())))
noncomputable def M.YN (a0 : Zf) (a1 : ByteArray) : Option Int :=
  (loopM (M.Qu a0 a1) 0).bind fun y3 => Sum.elim (fun _ => some (-1)) (fun y5 => some y5) y3
noncomputable def M.QM (a0 : Zf) (p1 : Int) (p4 : Int) : Option (Int ⊕ (Unit ⊕ Int)) :=
  bif decide (p4 < p1) then (gd [decide (0 ≤ p4), decide (p4 < (a0.XC.length : Int)), decide (0 ≤ p1), decide (p1 < (a0.XC.length : Int))] (bif strEq ((a0.XC.getD p4.toNat default).Xl) ((a0.XC.getD p1.toNat default).Xl) then (some (.inr (.inr 4))) else (some (.inl (wr .i64 (p4 + 1)))))) else (some (.inr (.inl ())))
noncomputable def M.QN (a0 : Zf) (p1 : Int) (p9 : Int) : Option (Int ⊕ (Unit ⊕ Int)) :=
  gd [decide (0 ≤ p1), decide (p1 < (a0.XC.length : Int))] (bif decide (p9 < (((a0.XC.getD p1.toNat default).XZ).length : Int)) then (gd [decide (0 ≤ p1), decide (p1 < (a0.XC.length : Int)), decide (0 ≤ p9), decide (p9 < (((a0.XC.getD p1.toNat default).XZ).length : Int))] ((gc (!strEq ((((a0.XC.getD p1.toNat default).XZ).getD p9.toNat default).JZ) (⟨#[]⟩ : ByteArray)) (M.YN a0 ((((a0.XC.getD p1.toNat default).XZ).getD p9.toNat default).JZ))).bind fun r11 => bif (!strEq ((((a0.XC.getD p1.toNat default).XZ).getD p9.toNat default).JZ) (⟨#[]⟩ : ByteArray)) && (decide (r11 < 0)) then (some (.inr (.inr 5))) else ((M.ZT ((((a0.XC.getD p1.toNat default).XZ).getD p9.toNat default).Kr) (-1) 65535).bind fun r12 => (gc (!(!r12)) (M.ZT ((((a0.XC.getD p1.toNat default).XZ).getD p9.toNat default).ZbB) (-1) 65535)).bind fun r13 => (gc (!((!r12) || (!r13))) (M.ZT ((((a0.XC.getD p1.toNat default).XZ).getD p9.toNat default).Gl) (-1) 16777215)).bind fun r14 => (gc (!(((!r12) || (!r13)) || (!r14))) (M.ZT ((((a0.XC.getD p1.toNat default).XZ).getD p9.toNat default).Rm) (-1) 1000000)).bind fun r15 => (gc (!((((!r12) || (!r13)) || (!r14)) || (!r15))) (M.ZT ((((a0.XC.getD p1.toNat default).XZ).getD p9.toNat default).Rn) 0 8)).bind fun r16 => bif ((((!r12) || (!r13)) || (!r14)) || (!r15)) || (!r16) then (some (.inr (.inr 1))) else (some (.inl (wr .i64 (p9 + 1))))))) else (some (.inr (.inl ()))))
noncomputable def M.QO (a0 : Zf) (p1 : Int) : Option (Int ⊕ (Unit ⊕ Int)) :=
  bif decide (p1 < (a0.XC.length : Int)) then ((M.QX ((a0.XC.getD p1.toNat default).Xl)).bind fun r3 => gd [decide (0 ≤ p1), decide (p1 < (a0.XC.length : Int))] (bif !r3 then (some (.inr (.inr 3))) else ((loopM (M.QM a0 p1) 0).bind fun y6 => Sum.elim (fun _ => gd [decide (0 ≤ p1), decide (p1 < (a0.XC.length : Int))] (bif (((a0.XC.getD p1.toNat default).XZ).length : Int) == 0 then (some (.inr (.inr 1))) else (gd [decide (0 ≤ p1), decide (p1 < (a0.XC.length : Int))] (bif decide ((((a0.XC.getD p1.toNat default).XZ).length : Int) > 8) then (some (.inr (.inr 7))) else ((loopM (M.QN a0 p1) 0).bind fun y17 => Sum.elim (fun _ => some (.inl (wr .i64 (p1 + 1)))) (fun y19 => some (.inr (.inr y19))) y17))))) (fun y8 => some (.inr (.inr y8))) y6))) else (some (.inr (.inl ())))
noncomputable def M.QZ (a0 : Zf) : Option Int :=
  bif decide ((a0.XC.length : Int) > 8) then (some 7) else ((loopM (M.QO a0) 0).bind fun y20 => Sum.elim (fun _ => some 0) (fun y22 => some y22) y20)
noncomputable def M.VR (a0 : Vz) : Option Bool :=
  some (((decide (0 ≤ a0.G8)) && (decide (a0.G8 ≤ a0.KQ))) && (decide (a0.KQ ≤ 65535)))
noncomputable def M.W7 (a0 : Vz) : Option Bool :=
  some ((a0.G8 == 0) && ((a0.KQ == 65535) && true))
noncomputable def M.J3 (a0 : Zd4) : Option Bool :=
  (M.ZT a0.YQ (-1) 255).bind fun r1 => (gc (!(((!r1) || ((bitD .and .u32 a0.ZaP.Zs a0.ZaP.Gb) != 0)) || ((bitD .and .u32 a0.ZaQ.Zs a0.ZaQ.Gb) != 0))) (M.VR a0.Ud)).bind fun r2 => (gc (!((((!r1) || ((bitD .and .u32 a0.ZaP.Zs a0.ZaP.Gb) != 0)) || ((bitD .and .u32 a0.ZaQ.Zs a0.ZaQ.Gb) != 0)) || (!r2))) (M.VR a0.Ue)).bind fun r3 => bif ((((!r1) || ((bitD .and .u32 a0.ZaP.Zs a0.ZaP.Gb) != 0)) || ((bitD .and .u32 a0.ZaQ.Zs a0.ZaQ.Gb) != 0)) || (!r2)) || (!r3) then (some false) else ((gc (!((a0.YQ == 6) || (a0.YQ == 17))) (M.W7 a0.Ud)).bind fun r4 => (gc ((!((a0.YQ == 6) || (a0.YQ == 17))) && r4) (M.W7 a0.Ue)).bind fun r5 => some (((a0.YQ == 6) || (a0.YQ == 17)) || (r4 && r5)))
noncomputable def M.Qf (a0 : List WV) (p1 : Int) (p4 : Int) : Option (Int ⊕ (Unit ⊕ Int)) :=
  bif decide (p4 < p1) then (gd [decide (0 ≤ p4), decide (p4 < (a0.length : Int)), decide (0 ≤ p1), decide (p1 < (a0.length : Int))] (bif strEq ((a0.getD p4.toNat default).Xl) ((a0.getD p1.toNat default).Xl) then (some (.inr (.inr 4))) else (some (.inl (wr .i64 (p4 + 1)))))) else (some (.inr (.inl ())))
noncomputable def M.Qg (a0 : List WV) (p1 : Int) (p9 : Int) : Option (Int ⊕ (Unit ⊕ Int)) :=
  gd [decide (0 ≤ p1), decide (p1 < (a0.length : Int))] (bif decide (p9 < (((a0.getD p1.toNat default).YG).length : Int)) then ((M.J3 (((a0.getD p1.toNat default).YG).getD p9.toNat default)).bind fun r11 => gd [decide (0 ≤ p1), decide (p1 < (a0.length : Int)), decide (0 ≤ p9), decide (p9 < (((a0.getD p1.toNat default).YG).length : Int))] (bif !r11 then (some (.inr (.inr 1))) else (some (.inl (wr .i64 (p9 + 1)))))) else (some (.inr (.inl ()))))
noncomputable def M.Qh (a0 : List WV) (p1 : Int) : Option (Int ⊕ (Unit ⊕ Int)) :=
  bif decide (p1 < (a0.length : Int)) then ((M.QX ((a0.getD p1.toNat default).Xl)).bind fun r3 => gd [decide (0 ≤ p1), decide (p1 < (a0.length : Int))] (bif !r3 then (some (.inr (.inr 3))) else ((loopM (M.Qf a0 p1) 0).bind fun y6 => Sum.elim (fun _ => gd [decide (0 ≤ p1), decide (p1 < (a0.length : Int))] (bif (((a0.getD p1.toNat default).YG).length : Int) == 0 then (some (.inr (.inr 1))) else (gd [decide (0 ≤ p1), decide (p1 < (a0.length : Int))] (bif decide ((((a0.getD p1.toNat default).YG).length : Int) > 16) then (some (.inr (.inr 7))) else ((loopM (M.Qg a0 p1) 0).bind fun y12 => Sum.elim (fun _ => some (.inl (wr .i64 (p1 + 1)))) (fun y14 => some (.inr (.inr y14))) y12))))) (fun y8 => some (.inr (.inr y8))) y6))) else (some (.inr (.inl ())))
noncomputable def M.Ql (a0 : List WV) : Option Int :=
  bif decide ((a0.length : Int) > 8) then (some 7) else ((loopM (M.Qh a0) 0).bind fun y15 => Sum.elim (fun _ => some 0) (fun y17 => some y17) y15)
noncomputable def M.V5 (a0 : Zf) (a1 : ByteArray) (p1 : Int) : Option (Int ⊕ (Unit ⊕ Int)) :=
  bif decide (p1 < (a0.YC.length : Int)) then (gd [decide (0 ≤ p1), decide (p1 < (a0.YC.length : Int))] (bif strEq ((a0.YC.getD p1.toNat default).Xl) a1 then (some (.inr (.inr p1))) else (some (.inl (wr .i64 (p1 + 1)))))) else (some (.inr (.inl ())))
noncomputable def M.Wp (a0 : Zf) (a1 : ByteArray) : Option Int :=
  (loopM (M.V5 a0 a1) 0).bind fun y3 => Sum.elim (fun _ => some (-1)) (fun y5 => some y5) y3
noncomputable def M.XS (a0 : Zf) (p1 : Int) (p3 : Bool) : Option (Int ⊕ (Unit ⊕ Int)) :=
  bif !p3 then (some (.inr (.inr 1))) else ((gc (((a0.Xd.getD p1.toNat default).Wj) == 2) (M.Wp a0 ((a0.Xd.getD p1.toNat default).JZ))).bind fun r4 => bif (((a0.Xd.getD p1.toNat default).Wj) == 2) && (decide (r4 < 0)) then (some (.inr (.inr 5))) else (some (.inl (wr .i64 (p1 + 1)))))
noncomputable def M.YU (a0 : Zf) (p1 : Int) : Option (Int ⊕ (Unit ⊕ Int)) :=
  bif decide (p1 < (a0.Xd.length : Int)) then (gd [decide (0 ≤ p1), decide (p1 < (a0.Xd.length : Int))] (bif ((a0.Xd.getD p1.toNat default).Wj) == 1 then (M.XS a0 p1 (((((a0.Xd.getD p1.toNat default).Jz) != 0) && (((a0.Xd.getD p1.toNat default).Qz) != 0)) && ((((a0.Xd.getD p1.toNat default).Wj) == ((a0.Xd.getD p1.toNat default).Wj)) && ((((a0.Xd.getD p1.toNat default).Jz) == ((a0.Xd.getD p1.toNat default).Jz)) && ((((a0.Xd.getD p1.toNat default).Qz) == ((a0.Xd.getD p1.toNat default).Qz)) && ((((a0.Xd.getD p1.toNat default).YQ) == 0) && ((((a0.Xd.getD p1.toNat default).JO) == 0) && ((((a0.Xd.getD p1.toNat default).Je) == 0) && (strEq ((a0.Xd.getD p1.toNat default).JZ) (⟨#[]⟩ : ByteArray) && ((((a0.Xd.getD p1.toNat default).G8) == 0) && ((((a0.Xd.getD p1.toNat default).KQ) == 0) && true))))))))))) else (bif ((a0.Xd.getD p1.toNat default).Wj) == 2 then (M.XS a0 p1 ((((((a0.Xd.getD p1.toNat default).G8) != 0) && (decide (((a0.Xd.getD p1.toNat default).G8) ≤ ((a0.Xd.getD p1.toNat default).KQ)))) && (decide ((wr .u32 (((a0.Xd.getD p1.toNat default).KQ) - ((a0.Xd.getD p1.toNat default).G8))) < 8))) && ((((a0.Xd.getD p1.toNat default).Wj) == ((a0.Xd.getD p1.toNat default).Wj)) && ((((a0.Xd.getD p1.toNat default).Jz) == 0) && ((((a0.Xd.getD p1.toNat default).Qz) == 0) && ((((a0.Xd.getD p1.toNat default).YQ) == 0) && ((((a0.Xd.getD p1.toNat default).JO) == 0) && ((((a0.Xd.getD p1.toNat default).Je) == 0) && (strEq ((a0.Xd.getD p1.toNat default).JZ) ((a0.Xd.getD p1.toNat default).JZ) && ((((a0.Xd.getD p1.toNat default).G8) == ((a0.Xd.getD p1.toNat default).G8)) && ((((a0.Xd.getD p1.toNat default).KQ) == ((a0.Xd.getD p1.toNat default).KQ)) && true))))))))))) else (bif ((a0.Xd.getD p1.toNat default).Wj) == 3 then ((gc (((((a0.Xd.getD p1.toNat default).Jz) != 0) && (((a0.Xd.getD p1.toNat default).Qz) != 0)) && ((((a0.Xd.getD p1.toNat default).YQ) == 6) || (((a0.Xd.getD p1.toNat default).YQ) == 17))) (M.ZT ((a0.Xd.getD p1.toNat default).JO) 0 65535)).bind fun r5 => (gc ((((((a0.Xd.getD p1.toNat default).Jz) != 0) && (((a0.Xd.getD p1.toNat default).Qz) != 0)) && ((((a0.Xd.getD p1.toNat default).YQ) == 6) || (((a0.Xd.getD p1.toNat default).YQ) == 17))) && r5) (M.ZT ((a0.Xd.getD p1.toNat default).Je) 0 65535)).bind fun r6 => M.XS a0 p1 ((((((((((a0.Xd.getD p1.toNat default).Jz) != 0) && (((a0.Xd.getD p1.toNat default).Qz) != 0)) && ((((a0.Xd.getD p1.toNat default).YQ) == 6) || (((a0.Xd.getD p1.toNat default).YQ) == 17))) && r5) && r6) && (strEq ((a0.Xd.getD p1.toNat default).JZ) (⟨#[]⟩ : ByteArray))) && (((a0.Xd.getD p1.toNat default).G8) == 0)) && (((a0.Xd.getD p1.toNat default).KQ) == 0))) else (M.XS a0 p1 false))))) else (some (.inr (.inl ())))
noncomputable def M.YV (a0 : Zf) : Option Int :=
  bif decide ((a0.Xd.length : Int) > 8) then (some 7) else ((loopM (M.YU a0) 0).bind fun y7 => Sum.elim (fun _ => some 0) (fun y9 => some y9) y7)
noncomputable def M.JA (a0 : Zf) (p1 : Int) : Option (Int ⊕ (Unit ⊕ Int)) :=
  bif decide (p1 < (a0.Zc.length : Int)) then (gd [decide (0 ≤ p1), decide (p1 < (a0.Zc.length : Int))] ((gc (!strEq ((a0.Zc.getD p1.toNat default).VG) (⟨#[]⟩ : ByteArray)) (M.Wp a0 ((a0.Zc.getD p1.toNat default).VG))).bind fun r3 => (gc ((!((!strEq ((a0.Zc.getD p1.toNat default).VG) (⟨#[]⟩ : ByteArray)) && (decide (r3 < 0)))) && (!strEq ((a0.Zc.getD p1.toNat default).Y7) (⟨#[]⟩ : ByteArray))) (M.Wp a0 ((a0.Zc.getD p1.toNat default).Y7))).bind fun r4 => bif ((!strEq ((a0.Zc.getD p1.toNat default).VG) (⟨#[]⟩ : ByteArray)) && (decide (r3 < 0))) || ((!strEq ((a0.Zc.getD p1.toNat default).Y7) (⟨#[]⟩ : ByteArray)) && (decide (r4 < 0))) then (some (.inr (.inr 5))) else (some (.inl (wr .i64 (p1 + 1)))))) else (some (.inr (.inl ())))
noncomputable def M.J4 (a0 : Zf) : Option Int :=
  (loopM (M.JA a0) 0).bind fun y5 => Sum.elim (fun _ => some 0) (fun y7 => some y7) y5
noncomputable def M.JB (a0 : Zf) (a1 : Int) (p1 : Int) : Option (Int ⊕ (Unit ⊕ Int)) :=
  bif decide (p1 < (a0.Zc.length : Int)) then (gd [decide (0 ≤ p1), decide (p1 < (a0.Zc.length : Int)), guardB (((a0.Zc.getD p1.toNat default).ZR) != 0) (decide (0 ≤ p1)), guardB (((a0.Zc.getD p1.toNat default).ZR) != 0) (decide (p1 < (a0.Zc.length : Int)))] (bif (((a0.Zc.getD p1.toNat default).ZR) != 0) && (((a0.Zc.getD p1.toNat default).Zs) == a1) then (some (.inr (.inr p1))) else (some (.inl (wr .i64 (p1 + 1)))))) else (some (.inr (.inl ())))
noncomputable def M.QP (a0 : Zf) (a1 : Int) : Option Int :=
  (loopM (M.JB a0 a1) 0).bind fun y3 => Sum.elim (fun _ => some (-1)) (fun y5 => some y5) y3
noncomputable def M.Qn (a0 : Zf) (a1 : ByteArray) (p1 : Int) : Option (Int ⊕ (Unit ⊕ Int)) :=
  bif decide (p1 < (a0.Zc.length : Int)) then (gd [decide (0 ≤ p1), decide (p1 < (a0.Zc.length : Int))] (bif strEq ((a0.Zc.getD p1.toNat default).Xl) a1 then (some (.inr (.inr p1))) else (some (.inl (wr .i64 (p1 + 1)))))) else (some (.inr (.inl ())))
noncomputable def M.Q0 (a0 : Zf) (a1 : ByteArray) : Option Int :=
  (loopM (M.Qn a0 a1) 0).bind fun y3 => Sum.elim (fun _ => some (-1)) (fun y5 => some y5) y3
noncomputable def M.JC (a0 : Zf) (p1 : Int) (p11 : Int) : Option (Int ⊕ (Unit ⊕ Int)) :=
  bif decide (p11 < p1) then (gd [decide (0 ≤ p11), decide (p11 < (a0.Zq.length : Int)), guardB (((((a0.Zq.getD p11.toNat default).Zo).Zs) == (((a0.Zq.getD p1.toNat default).Zo).Zs)) && (((((a0.Zq.getD p11.toNat default).Zo).ZR) == (((a0.Zq.getD p1.toNat default).Zo).ZR)) && true)) (decide (0 ≤ p11)), guardB (((((a0.Zq.getD p11.toNat default).Zo).Zs) == (((a0.Zq.getD p1.toNat default).Zo).Zs)) && (((((a0.Zq.getD p11.toNat default).Zo).ZR) == (((a0.Zq.getD p1.toNat default).Zo).ZR)) && true)) (decide (p11 < (a0.Zq.length : Int)))] (bif (((((a0.Zq.getD p11.toNat default).Zo).Zs) == (((a0.Zq.getD p1.toNat default).Zo).Zs)) && (((((a0.Zq.getD p11.toNat default).Zo).ZR) == (((a0.Zq.getD p1.toNat default).Zo).ZR)) && true)) && (((a0.Zq.getD p11.toNat default).Xq) == ((a0.Zq.getD p1.toNat default).Xq)) then (some (.inr (.inr 6))) else (some (.inl (wr .i64 (p11 + 1)))))) else (some (.inr (.inl ())))
noncomputable def M.QB (a0 : Zf) (p1 : Int) (_p10 : Unit) : Option (Int ⊕ (Unit ⊕ Int)) :=
  (loopM (M.JC a0 p1) 0).bind fun y13 => Sum.elim (fun _ => some (.inl (wr .i64 (p1 + 1)))) (fun y15 => some (.inr (.inr y15))) y13
noncomputable def M.QC (a0 : Zf) (p1 : Int) (p5 : Int) : Option (Int ⊕ (Unit ⊕ Int)) :=
  (M.Y8 ((a0.Zq.getD p1.toNat default).Zo)).bind fun r6 => (gc ((!((!r6) || (p5 != 1))) && (((a0.Zq.getD p1.toNat default).UG) != 0)) (M.QP a0 ((a0.Zq.getD p1.toNat default).UG))).bind fun r7 => (gc (!(((!r6) || (p5 != 1)) || ((((a0.Zq.getD p1.toNat default).UG) != 0) && (decide (r7 ≥ 0))))) (M.ZT ((a0.Zq.getD p1.toNat default).Xq) 1 255)).bind fun r8 => (gc (!((((!r6) || (p5 != 1)) || ((((a0.Zq.getD p1.toNat default).UG) != 0) && (decide (r7 ≥ 0)))) || (!r8))) (M.ZT ((a0.Zq.getD p1.toNat default).Kr) 0 65535)).bind fun r9 => bif ((((!r6) || (p5 != 1)) || ((((a0.Zq.getD p1.toNat default).UG) != 0) && (decide (r7 ≥ 0)))) || (!r8)) || (!r9) then (some (.inr (.inr 1))) else (bif !strEq ((a0.Zq.getD p1.toNat default).XY) (⟨#[]⟩ : ByteArray) then ((M.Q0 a0 ((a0.Zq.getD p1.toNat default).XY)).bind fun r16 => bif decide (r16 < 0) then (some (.inr (.inr 5))) else (gd [decide (0 ≤ r16), decide (r16 < (a0.Zc.length : Int))] (bif ((a0.Zc.getD r16.toNat default).ZR) == 0 then (some (.inr (.inr 1))) else (M.QB a0 p1 ())))) else (M.QB a0 p1 ()))
noncomputable def M.QD (a0 : Zf) (p1 : Int) (p4 : Int) : Option (Int ⊕ (Unit ⊕ Int)) :=
  bif (a0.Zq.getD p1.toNat default).Zd5 then (M.QC a0 p1 (wr .i64 (p4 + 1))) else (M.QC a0 p1 p4)
noncomputable def M.QE (a0 : Zf) (p1 : Int) (p3 : Int) : Option (Int ⊕ (Unit ⊕ Int)) :=
  bif !strEq ((a0.Zq.getD p1.toNat default).XY) (⟨#[]⟩ : ByteArray) then (M.QD a0 p1 (wr .i64 (p3 + 1))) else (M.QD a0 p1 p3)
noncomputable def M.JD (a0 : Zf) (p1 : Int) : Option (Int ⊕ (Unit ⊕ Int)) :=
  bif decide (p1 < (a0.Zq.length : Int)) then (gd [decide (0 ≤ p1), decide (p1 < (a0.Zq.length : Int))] (bif ((a0.Zq.getD p1.toNat default).UG) != 0 then (M.QE a0 p1 1) else (M.QE a0 p1 0))) else (some (.inr (.inl ())))
noncomputable def M.J5 (a0 : Zf) : Option Int :=
  bif decide ((a0.Zq.length : Int) > 16) then (some 7) else ((loopM (M.JD a0) 0).bind fun y17 => Sum.elim (fun _ => some 0) (fun y19 => some y19) y17)
noncomputable def M.Jg (a0 : Zf) (a1 : ByteArray) (p1 : Int) : Option (Int ⊕ (Unit ⊕ Int)) :=
  bif decide (p1 < (a0.XC.length : Int)) then (gd [decide (0 ≤ p1), decide (p1 < (a0.XC.length : Int))] (bif strEq ((a0.XC.getD p1.toNat default).Xl) a1 then (some (.inr (.inr p1))) else (some (.inl (wr .i64 (p1 + 1)))))) else (some (.inr (.inl ())))
noncomputable def M.QH (a0 : Zf) (a1 : ByteArray) : Option Int :=
  (loopM (M.Jg a0 a1) 0).bind fun y3 => Sum.elim (fun _ => some (-1)) (fun y5 => some y5) y3
noncomputable def M.Yj (a1 : List YJ) (p1 : Int) (p7 : Int) : Option (Int ⊕ (Unit ⊕ Int)) :=
  bif decide (p7 < p1) then (gd [decide (0 ≤ p7), decide (p7 < (a1.length : Int))] (bif ((a1.getD p7.toNat default).Gm) == ((a1.getD p1.toNat default).Gm) then (some (.inr (.inr 4))) else (some (.inl (wr .i64 (p7 + 1)))))) else (some (.inr (.inl ())))
noncomputable def M.Yk (a0 : Zf) (a1 : List YJ) (a2 : Int) (a3 : Int) (a4 : Int) (p1 : Int) : Option (Int ⊕ (Unit ⊕ Int)) :=
  bif decide (p1 < (a1.length : Int)) then (gd [decide (0 ≤ p1), decide (p1 < (a1.length : Int))] ((M.ZT ((a1.getD p1.toNat default).Gm) 1 5).bind fun r3 => (gc (!((!r3) || (((a1.getD p1.toNat default).Gm) == a2))) (M.ZT ((a1.getD p1.toNat default).ZbC) a3 a4)).bind fun r4 => (gc (!(((!r3) || (((a1.getD p1.toNat default).Gm) == a2)) || (!r4))) (M.ZT ((a1.getD p1.toNat default).Kr) 0 65535)).bind fun r5 => bif (((!r3) || (((a1.getD p1.toNat default).Gm) == a2)) || (!r4)) || (!r5) then (some (.inr (.inr 1))) else (bif (((a2 == 3) && (((a1.getD p1.toNat default).ZcO) != 1)) && (((a1.getD p1.toNat default).ZcO) != 2)) || ((a2 != 3) && (((a1.getD p1.toNat default).ZcO) != 0)) then (some (.inr (.inr 1))) else ((gc (!strEq ((a1.getD p1.toNat default).Zcj) (⟨#[]⟩ : ByteArray)) (M.QH a0 ((a1.getD p1.toNat default).Zcj))).bind fun r6 => bif (!strEq ((a1.getD p1.toNat default).Zcj) (⟨#[]⟩ : ByteArray)) && (decide (r6 < 0)) then (some (.inr (.inr 5))) else ((loopM (M.Yj a1 p1) 0).bind fun y9 => Sum.elim (fun _ => some (.inl (wr .i64 (p1 + 1)))) (fun y11 => some (.inr (.inr y11))) y9))))) else (some (.inr (.inl ())))
noncomputable def M.X1 (a0 : Zf) (a1 : List YJ) (a2 : Int) (a3 : Int) (a4 : Int) : Option Int :=
  bif decide ((a1.length : Int) > 4) then (some 7) else ((loopM (M.Yk a0 a1 a2 a3 a4) 0).bind fun y12 => Sum.elim (fun _ => some 0) (fun y14 => some y14) y12)
noncomputable def M.QQ (a0 : Zf) (p2 : Int) (p6 : Int) : Option (Int ⊕ (Unit ⊕ Int)) :=
  bif decide (p6 < p2) then ((gc (((a0.Yf.Z6.getD p6.toNat default).VQ) == ((a0.Yf.Z6.getD p2.toNat default).VQ)) (M.Qm ((a0.Yf.Z6.getD p6.toNat default).Zo) ((a0.Yf.Z6.getD p2.toNat default).Zo))).bind fun r8 => gd [decide (0 ≤ p6), decide (p6 < (a0.Yf.Z6.length : Int)), decide (0 ≤ p2), decide (p2 < (a0.Yf.Z6.length : Int)), guardB (((a0.Yf.Z6.getD p6.toNat default).VQ) == ((a0.Yf.Z6.getD p2.toNat default).VQ)) (decide (0 ≤ p6)), guardB (((a0.Yf.Z6.getD p6.toNat default).VQ) == ((a0.Yf.Z6.getD p2.toNat default).VQ)) (decide (p6 < (a0.Yf.Z6.length : Int))), guardB (((a0.Yf.Z6.getD p6.toNat default).VQ) == ((a0.Yf.Z6.getD p2.toNat default).VQ)) (decide (0 ≤ p2)), guardB (((a0.Yf.Z6.getD p6.toNat default).VQ) == ((a0.Yf.Z6.getD p2.toNat default).VQ)) (decide (p2 < (a0.Yf.Z6.length : Int)))] (bif (((a0.Yf.Z6.getD p6.toNat default).VQ) == ((a0.Yf.Z6.getD p2.toNat default).VQ)) && r8 then (some (.inr (.inr 6))) else (some (.inl (wr .i64 (p6 + 1)))))) else (some (.inr (.inl ())))
noncomputable def M.QR (a0 : Zf) (p2 : Int) : Option (Int ⊕ (Unit ⊕ Int)) :=
  bif decide (p2 < (a0.Yf.Z6.length : Int)) then ((M.ZT ((a0.Yf.Z6.getD p2.toNat default).VQ) 0 255).bind fun r4 => (gc (!(!r4)) (M.Y8 ((a0.Yf.Z6.getD p2.toNat default).Zo))).bind fun r5 => gd [decide (0 ≤ p2), decide (p2 < (a0.Yf.Z6.length : Int)), guardB (!(!r4)) (decide (0 ≤ p2)), guardB (!(!r4)) (decide (p2 < (a0.Yf.Z6.length : Int)))] (bif (!r4) || (!r5) then (some (.inr (.inr 1))) else ((loopM (M.QQ a0 p2) 0).bind fun y9 => Sum.elim (fun _ => some (.inl (wr .i64 (p2 + 1)))) (fun y11 => some (.inr (.inr y11))) y9))) else (some (.inr (.inl ())))
noncomputable def M.Q1 (a0 : Zf) : Option Int :=
  bif !a0.Yf.Vq then (bif ((a0.Yf.Xq != 0) || (decide ((a0.Yf.Z6.length : Int) > 0))) || (decide ((a0.Yf.Zr.length : Int) > 0)) then (some 1) else (some 0)) else ((M.ZT a0.Yf.Xq 1 255).bind fun r1 => bif !r1 then (some 1) else (bif decide ((a0.Yf.Z6.length : Int) > 4) then (some 7) else ((loopM (M.QR a0) 0).bind fun y12 => Sum.elim (fun _ => (M.X1 a0 a0.Yf.Zr 3 0 16777215).bind fun r15 => some r15) (fun y14 => some y14) y12)))
noncomputable def M.Ju (a0 : Zf) : Option Int :=
  bif !a0.Ym.Vq then (bif (((a0.Ym.Xq != 0) || (!strEq a0.Ym.VG (⟨#[]⟩ : ByteArray))) || (!strEq a0.Ym.Y7 (⟨#[]⟩ : ByteArray))) || (decide ((a0.Ym.Zr.length : Int) > 0)) then (some 1) else (some 0)) else ((M.ZT a0.Ym.Xq 1 255).bind fun r1 => bif !r1 then (some 1) else ((gc (!strEq a0.Ym.VG (⟨#[]⟩ : ByteArray)) (M.YN a0 a0.Ym.VG)).bind fun r2 => (gc ((!((!strEq a0.Ym.VG (⟨#[]⟩ : ByteArray)) && (decide (r2 < 0)))) && (!strEq a0.Ym.Y7 (⟨#[]⟩ : ByteArray))) (M.YN a0 a0.Ym.Y7)).bind fun r3 => bif ((!strEq a0.Ym.VG (⟨#[]⟩ : ByteArray)) && (decide (r2 < 0))) || ((!strEq a0.Ym.Y7 (⟨#[]⟩ : ByteArray)) && (decide (r3 < 0))) then (some 5) else ((M.X1 a0 a0.Ym.Zr 4 1 15).bind fun r4 => some r4)))
noncomputable def M.QS (a0 : Zf) (p1 : Int) (p6 : Int) : Option (Int ⊕ (Unit ⊕ Int)) :=
  bif decide (p6 < p1) then (gd [decide (0 ≤ p6), decide (p6 < (a0.Xr.Zm.length : Int)), decide (0 ≤ p1), decide (p1 < (a0.Xr.Zm.length : Int))] (bif ((a0.Xr.Zm.getD p6.toNat default).Zs) == ((a0.Xr.Zm.getD p1.toNat default).Zs) then (some (.inr (.inr 4))) else (some (.inl (wr .i64 (p6 + 1)))))) else (some (.inr (.inl ())))
noncomputable def M.QT (a0 : Zf) (p1 : Int) : Option (Int ⊕ (Unit ⊕ Int)) :=
  bif decide (p1 < (a0.Xr.Zm.length : Int)) then ((gc (!(((a0.Xr.Zm.getD p1.toNat default).Zs) == 0)) (M.ZT ((a0.Xr.Zm.getD p1.toNat default).Ge) 1 65535)).bind fun r3 => gd [decide (0 ≤ p1), decide (p1 < (a0.Xr.Zm.length : Int)), guardB (!(((a0.Xr.Zm.getD p1.toNat default).Zs) == 0)) (decide (0 ≤ p1)), guardB (!(((a0.Xr.Zm.getD p1.toNat default).Zs) == 0)) (decide (p1 < (a0.Xr.Zm.length : Int)))] (bif (((a0.Xr.Zm.getD p1.toNat default).Zs) == 0) || (!r3) then (some (.inr (.inr 1))) else ((gc (!strEq ((a0.Xr.Zm.getD p1.toNat default).VG) (⟨#[]⟩ : ByteArray)) (M.QH a0 ((a0.Xr.Zm.getD p1.toNat default).VG))).bind fun r4 => (gc ((!((!strEq ((a0.Xr.Zm.getD p1.toNat default).VG) (⟨#[]⟩ : ByteArray)) && (decide (r4 < 0)))) && (!strEq ((a0.Xr.Zm.getD p1.toNat default).Y7) (⟨#[]⟩ : ByteArray))) (M.QH a0 ((a0.Xr.Zm.getD p1.toNat default).Y7))).bind fun r5 => gd [decide (0 ≤ p1), decide (p1 < (a0.Xr.Zm.length : Int)), guardB (!strEq ((a0.Xr.Zm.getD p1.toNat default).VG) (⟨#[]⟩ : ByteArray)) (decide (0 ≤ p1)), guardB (!strEq ((a0.Xr.Zm.getD p1.toNat default).VG) (⟨#[]⟩ : ByteArray)) (decide (p1 < (a0.Xr.Zm.length : Int))), guardB (!((!strEq ((a0.Xr.Zm.getD p1.toNat default).VG) (⟨#[]⟩ : ByteArray)) && (decide (r4 < 0)))) (decide (0 ≤ p1)), guardB (!((!strEq ((a0.Xr.Zm.getD p1.toNat default).VG) (⟨#[]⟩ : ByteArray)) && (decide (r4 < 0)))) (decide (p1 < (a0.Xr.Zm.length : Int))), guardB ((!((!strEq ((a0.Xr.Zm.getD p1.toNat default).VG) (⟨#[]⟩ : ByteArray)) && (decide (r4 < 0)))) && (!strEq ((a0.Xr.Zm.getD p1.toNat default).Y7) (⟨#[]⟩ : ByteArray))) (decide (0 ≤ p1)), guardB ((!((!strEq ((a0.Xr.Zm.getD p1.toNat default).VG) (⟨#[]⟩ : ByteArray)) && (decide (r4 < 0)))) && (!strEq ((a0.Xr.Zm.getD p1.toNat default).Y7) (⟨#[]⟩ : ByteArray))) (decide (p1 < (a0.Xr.Zm.length : Int)))] (bif ((!strEq ((a0.Xr.Zm.getD p1.toNat default).VG) (⟨#[]⟩ : ByteArray)) && (decide (r4 < 0))) || ((!strEq ((a0.Xr.Zm.getD p1.toNat default).Y7) (⟨#[]⟩ : ByteArray)) && (decide (r5 < 0))) then (some (.inr (.inr 5))) else ((loopM (M.QS a0 p1) 0).bind fun y8 => Sum.elim (fun _ => some (.inl (wr .i64 (p1 + 1)))) (fun y10 => some (.inr (.inr y10))) y8))))) else (some (.inr (.inl ())))
noncomputable def M.J6 (a0 : Zf) : Option Int :=
  bif decide ((a0.Xr.Zm.length : Int) > 8) then (some 7) else ((loopM (M.QT a0) 0).bind fun y11 => Sum.elim (fun _ => some 0) (fun y13 => some y13) y11)
noncomputable def M.YW (a0 : Xw) (p1 : Int) (p4 : Int) : Option (Int ⊕ (Unit ⊕ Int)) :=
  bif decide (p4 < p1) then (gd [decide (0 ≤ p4), decide (p4 < (a0.Z0.length : Int)), decide (0 ≤ p1), decide (p1 < (a0.Z0.length : Int))] (bif ((((a0.Z0.getD p4.toNat default).Zs) == ((a0.Z0.getD p1.toNat default).Zs)) && ((((a0.Z0.getD p4.toNat default).ZR) == ((a0.Z0.getD p1.toNat default).ZR)) && true)) then (some (.inr (.inr 4))) else (some (.inl (wr .i64 (p4 + 1)))))) else (some (.inr (.inl ())))
noncomputable def M.YX (a0 : Xw) (p1 : Int) : Option (Int ⊕ (Unit ⊕ Int)) :=
  bif decide (p1 < (a0.Z0.length : Int)) then ((M.Y8 (a0.Z0.getD p1.toNat default)).bind fun r3 => gd [decide (0 ≤ p1), decide (p1 < (a0.Z0.length : Int))] (bif !r3 then (some (.inr (.inr 1))) else ((loopM (M.YW a0 p1) 0).bind fun y6 => Sum.elim (fun _ => some (.inl (wr .i64 (p1 + 1)))) (fun y8 => some (.inr (.inr y8))) y6))) else (some (.inr (.inl ())))
noncomputable def M.YY (a0 : Xw) (p12 : Int) (p15 : Int) : Option (Int ⊕ (Unit ⊕ Int)) :=
  bif decide (p15 < p12) then (gd [decide (0 ≤ p15), decide (p15 < (a0.ZC.length : Int)), decide (0 ≤ p12), decide (p12 < (a0.ZC.length : Int))] (bif (((((a0.ZC.getD p15.toNat default).Zo).Zs) == (((a0.ZC.getD p12.toNat default).Zo).Zs)) && (((((a0.ZC.getD p15.toNat default).Zo).ZR) == (((a0.ZC.getD p12.toNat default).Zo).ZR)) && true)) then (some (.inr (.inr 4))) else (some (.inl (wr .i64 (p15 + 1)))))) else (some (.inr (.inl ())))
noncomputable def M.YZ (a0 : Xw) (p12 : Int) : Option (Int ⊕ (Unit ⊕ Int)) :=
  bif decide (p12 < (a0.ZC.length : Int)) then ((M.Y8 ((a0.ZC.getD p12.toNat default).Zo)).bind fun r14 => gd [decide (0 ≤ p12), decide (p12 < (a0.ZC.length : Int))] (bif !r14 then (some (.inr (.inr 1))) else ((loopM (M.YY a0 p12) 0).bind fun y17 => Sum.elim (fun _ => some (.inl (wr .i64 (p12 + 1)))) (fun y19 => some (.inr (.inr y19))) y17))) else (some (.inr (.inl ())))
noncomputable def M.Y0 (a0 : Xw) (p23 : Int) (p27 : Int) : Option (Int ⊕ (Unit ⊕ Int)) :=
  bif decide (p27 < p23) then (gd [decide (0 ≤ p27), decide (p27 < (a0.Zt.length : Int))] (bif (((((a0.Zt.getD p27.toNat default).Zo).Zs) == (((a0.Zt.getD p23.toNat default).Zo).Zs)) && (((((a0.Zt.getD p27.toNat default).Zo).ZR) == (((a0.Zt.getD p23.toNat default).Zo).ZR)) && true)) then (some (.inr (.inr 4))) else (some (.inl (wr .i64 (p27 + 1)))))) else (some (.inr (.inl ())))
noncomputable def M.Y1 (a0 : Xw) (p23 : Int) : Option (Int ⊕ (Unit ⊕ Int)) :=
  bif decide (p23 < (a0.Zt.length : Int)) then (gd [decide (0 ≤ p23), decide (p23 < (a0.Zt.length : Int))] ((M.Y8 ((a0.Zt.getD p23.toNat default).Zo)).bind fun r25 => (gc (!(!r25)) (M.Y8 ((a0.Zt.getD p23.toNat default).fIf))).bind fun r26 => bif (!r25) || (!r26) then (some (.inr (.inr 1))) else (bif (((((a0.Zt.getD p23.toNat default).Zo).Zs) == (((a0.Zt.getD p23.toNat default).fIf).Zs)) && (((((a0.Zt.getD p23.toNat default).Zo).ZR) == (((a0.Zt.getD p23.toNat default).fIf).ZR)) && true)) then (some (.inr (.inr 6))) else ((loopM (M.Y0 a0 p23) 0).bind fun y29 => Sum.elim (fun _ => some (.inl (wr .i64 (p23 + 1)))) (fun y31 => some (.inr (.inr y31))) y29)))) else (some (.inr (.inl ())))
noncomputable def M.QU (a0 : Xw) : Option Int :=
  bif decide ((a0.Z0.length : Int) > 8) then (some 7) else ((loopM (M.YX a0) 0).bind fun y9 => Sum.elim (fun _ => bif decide ((a0.ZC.length : Int) > 8) then (some 7) else ((loopM (M.YZ a0) 0).bind fun y20 => Sum.elim (fun _ => bif decide ((a0.Zt.length : Int) > 8) then (some 7) else ((loopM (M.Y1 a0) 0).bind fun y32 => Sum.elim (fun _ => some 0) (fun y34 => some y34) y32)) (fun y22 => some y22) y20)) (fun y11 => some y11) y9)
noncomputable def M.QF (a0 : Zf) : Option Int :=
  bif !a0.Xr.Vq then (bif ((a0.Xr.XU != 0) || (a0.Xr.XV != 0)) || (decide ((wr .i64 ((wr .i64 ((wr .i64 ((wr .i64 ((a0.Xr.Zm.length : Int) + (a0.Xr.Z0.length : Int))) + (a0.Xr.ZC.length : Int))) + (a0.Xr.Zt.length : Int))) + (a0.Xr.Zr.length : Int))) > 0)) then (some 1) else (some 0)) else ((gc (!(a0.Ge == 0)) (M.ZT a0.Xr.XU 1 255)).bind fun r1 => (gc (!((a0.Ge == 0) || (!r1))) (M.ZT a0.Xr.XV 1 255)).bind fun r2 => bif ((a0.Ge == 0) || (!r1)) || (!r2) then (some 1) else ((M.J6 a0).bind fun r3 => bif r3 != 0 then (some r3) else ((M.QU a0.Xr).bind fun r4 => bif r4 != 0 then (some r4) else ((M.X1 a0 a0.Xr.Zr 5 0 16777215).bind fun r5 => some r5))))
noncomputable def M.Yc (r3 : Int) (r4 : Int) (r5 : Int) (r6 : Int) (r7 : Int) (r8 : Int) (r9 : Int) (r10 : Int) (r11 : Int) (r12 : Int) (p13 : Int) : Option (Int ⊕ (Unit ⊕ Int)) :=
  bif decide (p13 < (([r3, r4, r5, r6, r7, r8, r9, r10, r11, r12] : List Int).length : Int)) then (gd [decide (0 ≤ p13), decide (p13 < (([r3, r4, r5, r6, r7, r8, r9, r10, r11, r12] : List Int).length : Int))] (bif (([r3, r4, r5, r6, r7, r8, r9, r10, r11, r12] : List Int).getD p13.toNat default) != 0 then (gd [decide (0 ≤ p13), decide (p13 < (([r3, r4, r5, r6, r7, r8, r9, r10, r11, r12] : List Int).length : Int))] (some (.inr (.inr (([r3, r4, r5, r6, r7, r8, r9, r10, r11, r12] : List Int).getD p13.toNat default))))) else (some (.inl (wr .i64 (p13 + 1)))))) else (some (.inr (.inl ())))
noncomputable def M.Yl (a0 : Zf) : Option Int :=
  (M.QX a0.Xl).bind fun r1 => bif !r1 then (some 3) else ((M.ZT a0.Ge 0 65535).bind fun r2 => bif !r2 then (some 1) else ((M.Yb a0.Zc).bind fun r3 => (M.Qk a0.Yt).bind fun r4 => (M.QZ a0).bind fun r5 => (M.Ql a0.YC).bind fun r6 => (M.YV a0).bind fun r7 => (M.J4 a0).bind fun r8 => (M.J5 a0).bind fun r9 => (M.Q1 a0).bind fun r10 => (M.Ju a0).bind fun r11 => (M.QF a0).bind fun r12 => (loopM (M.Yc r3 r4 r5 r6 r7 r8 r9 r10 r11 r12) 0).bind fun y15 => Sum.elim (fun _ => some 0) (fun y17 => some y17) y15))
noncomputable def M.Jv (a0 : Zw) (p1 : Int) (p4 : Int) : Option (Int ⊕ (Unit ⊕ Int)) :=
  bif decide (p4 < p1) then (gd [decide (0 ≤ p4), decide (p4 < (a0.Zd.length : Int)), decide (0 ≤ p1), decide (p1 < (a0.Zd.length : Int))] (bif strEq ((a0.Zd.getD p4.toNat default).Xl) ((a0.Zd.getD p1.toNat default).Xl) then (some (.inr (.inr 4))) else (some (.inl (wr .i64 (p4 + 1)))))) else (some (.inr (.inl ())))
noncomputable def M.Q9 (a0 : Zw) (p1 : Int) (p9 : Int) (p11 : Int) : Option (Int ⊕ (Unit ⊕ Int)) :=
  bif decide (p11 < p1) then ((gc (((((a0.Zd.getD p1.toNat default).Zc).getD p9.toNat default).ZR) != 0) (M.QP (a0.Zd.getD p11.toNat default) ((((a0.Zd.getD p1.toNat default).Zc).getD p9.toNat default).Zs))).bind fun r13 => gd [guardB (((((a0.Zd.getD p1.toNat default).Zc).getD p9.toNat default).ZR) != 0) (decide (0 ≤ p11)), guardB (((((a0.Zd.getD p1.toNat default).Zc).getD p9.toNat default).ZR) != 0) (decide (p11 < (a0.Zd.length : Int)))] (bif (((((a0.Zd.getD p1.toNat default).Zc).getD p9.toNat default).ZR) != 0) && (decide (r13 ≥ 0)) then (some (.inr (.inr 4))) else (some (.inl (wr .i64 (p11 + 1)))))) else (some (.inr (.inl ())))
noncomputable def M.Ja (a0 : Zw) (p1 : Int) (p9 : Int) : Option (Int ⊕ (Unit ⊕ Int)) :=
  gd [decide (0 ≤ p1), decide (p1 < (a0.Zd.length : Int))] (bif decide (p9 < (((a0.Zd.getD p1.toNat default).Zc).length : Int)) then (gd [decide (0 ≤ p1), decide (p1 < (a0.Zd.length : Int)), decide (0 ≤ p9), decide (p9 < (((a0.Zd.getD p1.toNat default).Zc).length : Int))] ((loopM (M.Q9 a0 p1 p9) 0).bind fun y14 => Sum.elim (fun _ => some (.inl (wr .i64 (p9 + 1)))) (fun y16 => some (.inr (.inr y16))) y14)) else (some (.inr (.inl ()))))
noncomputable def M.Jb (a0 : Zw) (p1 : Int) : Option (Int ⊕ (Unit ⊕ Int)) :=
  bif decide (p1 < (a0.Zd.length : Int)) then ((M.Yl (a0.Zd.getD p1.toNat default)).bind fun r3 => gd [decide (0 ≤ p1), decide (p1 < (a0.Zd.length : Int))] (bif r3 != 0 then (some (.inr (.inr r3))) else ((loopM (M.Jv a0 p1) 0).bind fun y6 => Sum.elim (fun _ => (loopM (M.Ja a0 p1) 0).bind fun y17 => Sum.elim (fun _ => some (.inl (wr .i64 (p1 + 1)))) (fun y19 => some (.inr (.inr y19))) y17) (fun y8 => some (.inr (.inr y8))) y6))) else (some (.inr (.inl ())))
noncomputable def M.Q2 (a0 : Zw) : Option Int :=
  bif decide ((a0.Zd.length : Int) > 8) then (some 7) else ((loopM (M.Jb a0) 0).bind fun y20 => Sum.elim (fun _ => some 0) (fun y22 => some y22) y20)
noncomputable def M.Vk (a0 : ZX) (a1 : ZX) : Option Int :=
  bif (decide (a0.Zs < a1.Zs)) || ((a0.Zs == a1.Zs) && (decide (a0.ZR < a1.ZR))) then (some (-1)) else (bif ((a0.Zs == a1.Zs) && ((a0.ZR == a1.ZR) && true)) then (some 0) else (some 1))
noncomputable def M.Wq (p16 : (List Zg) × Int) (p18 : (List Zg)) : Option (((List Zg) × Int) ⊕ (List Zg)) :=
  some (.inl (p18, wr .i64 (p16.2 + 1)))
noncomputable def M.VS (a0 : Zw) (p14 : (List Zg) × Int) (p16 : (List Zg) × Int) (r19 : ZX) (p20 : Int) : Option (Int ⊕ Int) :=
  (gc (decide (p20 < (p16.1.length : Int))) (M.Vk ((p16.1.getD (0 + p20.toNat) default).Zo) r19)).bind fun r22 => gd [guardB (decide (p20 < (p16.1.length : Int))) (decide (0 ≤ p20)), guardB (decide (p20 < (p16.1.length : Int))) (decide (p20 < (p16.1.length : Int))), guardB ((decide (p20 < (p16.1.length : Int))) && !(decide (r22 < 0))) (decide (0 ≤ p20)), guardB ((decide (p20 < (p16.1.length : Int))) && !(decide (r22 < 0))) (decide (p20 < (p16.1.length : Int))), guardB (((decide (p20 < (p16.1.length : Int))) && !(decide (r22 < 0))) && (((((p16.1.getD (0 + p20.toNat) default).Zo).Zs) == r19.Zs) && (((((p16.1.getD (0 + p20.toNat) default).Zo).ZR) == r19.ZR) && true))) (decide (0 ≤ p20)), guardB (((decide (p20 < (p16.1.length : Int))) && !(decide (r22 < 0))) && (((((p16.1.getD (0 + p20.toNat) default).Zo).Zs) == r19.Zs) && (((((p16.1.getD (0 + p20.toNat) default).Zo).ZR) == r19.ZR) && true))) (decide (p20 < (p16.1.length : Int)))] (bif (decide (p20 < (p16.1.length : Int))) && ((decide (r22 < 0)) || ((((((p16.1.getD (0 + p20.toNat) default).Zo).Zs) == r19.Zs) && (((((p16.1.getD (0 + p20.toNat) default).Zo).ZR) == r19.ZR) && true)) && (decide (((p16.1.getD (0 + p20.toNat) default).XB) < ((((a0.Zd.getD p14.2.toNat default).Zc).getD p16.2.toNat default).XB))))) then (some (.inl (wr .i64 (p20 + 1)))) else (some (.inr p20)))
noncomputable def M.Wr (p14 : (List Zg) × Int) (p16 : (List Zg) × Int) (y23 : Int) (p24 : (List Zg)) : Option (((List Zg) × Int) ⊕ (List Zg)) :=
  gd [decide (0 ≤ y23), decide (y23 < (p24.length : Int)), decide ((((p24.getD (0 + y23.toNat) default).ZZ).length + 1) * 16 ≤ 140737488355328), decide (0 ≤ y23), decide (y23 < (p24.length : Int))] (M.Wq p16 (p24.set (0 + y23.toNat) (⟨(p24.getD (0 + y23.toNat) default).Zo, (p24.getD (0 + y23.toNat) default).XB, ((p24.getD (0 + y23.toNat) default).ZZ) ++ [(⟨p14.2, p16.2⟩ : X8)]⟩ : Zg)))
noncomputable def M.VT (a0 : Zw) (p14 : (List Zg) × Int) (p16 : (List Zg) × Int) : Option (((List Zg) × Int) ⊕ (List Zg)) :=
  gd [decide (0 ≤ p14.2), decide (p14.2 < (a0.Zd.length : Int))] (bif decide (p16.2 < (((a0.Zd.getD p14.2.toNat default).Zc).length : Int)) then (gd [decide (0 ≤ p14.2), decide (p14.2 < (a0.Zd.length : Int)), decide (0 ≤ p16.2), decide (p16.2 < (((a0.Zd.getD p14.2.toNat default).Zc).length : Int))] (bif (((((a0.Zd.getD p14.2.toNat default).Zc).getD p16.2.toNat default).ZR) == 0) || ((((a0.Zd.getD p14.2.toNat default).Zc).getD p16.2.toNat default).V0) then (M.Wq p16 p16.1) else ((M.Qt ((((a0.Zd.getD p14.2.toNat default).Zc).getD p16.2.toNat default).Zs) ((((a0.Zd.getD p14.2.toNat default).Zc).getD p16.2.toNat default).ZR)).bind fun r19 => (loopM (M.VS a0 p14 p16 r19) 0).bind fun y23 => gd [guardB (!(y23 == (p16.1.length : Int))) (decide (0 ≤ y23)), guardB (!(y23 == (p16.1.length : Int))) (decide (y23 < (p16.1.length : Int))), guardB (!((y23 == (p16.1.length : Int)) || (!(((((p16.1.getD (0 + y23.toNat) default).Zo).Zs) == r19.Zs) && (((((p16.1.getD (0 + y23.toNat) default).Zo).ZR) == r19.ZR) && true))))) (decide (0 ≤ y23)), guardB (!((y23 == (p16.1.length : Int)) || (!(((((p16.1.getD (0 + y23.toNat) default).Zo).Zs) == r19.Zs) && (((((p16.1.getD (0 + y23.toNat) default).Zo).ZR) == r19.ZR) && true))))) (decide (y23 < (p16.1.length : Int)))] (bif ((y23 == (p16.1.length : Int)) || (!(((((p16.1.getD (0 + y23.toNat) default).Zo).Zs) == r19.Zs) && (((((p16.1.getD (0 + y23.toNat) default).Zo).ZR) == r19.ZR) && true)))) || (((p16.1.getD (0 + y23.toNat) default).XB) != ((((a0.Zd.getD p14.2.toNat default).Zc).getD p16.2.toNat default).XB)) then (gd [decide (0 ≤ y23), decide (y23 ≤ (p16.1.length : Int)), decide (0 = 0) || decide (0 < (p16.1.length - y23.toNat)), decide ((0 + (p16.1.length - y23.toNat)) * 48 ≤ 140737488355328)] (gd [decide (0 ≤ y23), decide (y23 ≤ (p16.1.length : Int)), decide (((y23.toNat - 0) + 1) * 48 ≤ 140737488355328), decide ((((y23.toNat - 0) + 1) + (0 + (p16.1.length - y23.toNat))) * 48 ≤ 140737488355328)] (M.Wr p14 p16 y23 (insL p16.1 y23.toNat (⟨r19, (((a0.Zd.getD p14.2.toNat default).Zc).getD p16.2.toNat default).XB, ([] : List X8)⟩ : Zg))))) else (M.Wr p14 p16 y23 p16.1))))) else (some (.inr p16.1)))
noncomputable def M.VU (a0 : Zw) (p14 : (List Zg) × Int) : Option (((List Zg) × Int) ⊕ (List Zg)) :=
  bif decide (p14.2 < (a0.Zd.length : Int)) then ((loopM (M.VT a0 p14) (p14.1, 0)).bind fun y25 => some (.inl (y25, wr .i64 (p14.2 + 1)))) else (some (.inr p14.1))
noncomputable def M.Ws (p28 : (List Int) × Int) (p30 : (List Int)) : Option (((List Int) × Int) ⊕ (List Int)) :=
  some (.inl (p30, wr .i64 (p28.2 + 1)))
noncomputable def M.VV (y26 : (List Zg)) (p28 : (List Int) × Int) : Option (((List Int) × Int) ⊕ (List Int)) :=
  bif decide (p28.2 < (y26.length : Int)) then (gd [decide (0 ≤ p28.2), decide (p28.2 < (y26.length : Int))] (bif decide ((((y26.getD p28.2.toNat default).ZZ).length : Int) > 1) then (gd [decide ((p28.1.length + 1) * 8 ≤ 140737488355328)] (M.Ws p28 (p28.1 ++ [p28.2]))) else (M.Ws p28 p28.1))) else (some (.inr p28.1))
noncomputable def M.W8 (a0 : Zw) : Option (Qs × Int) :=
  (M.Q2 a0).bind fun r1 => bif r1 != 0 then (some ((⟨([] : List Zg), ([] : List Int)⟩ : Qs), r1)) else ((loopM (M.VU a0) (([] : List Zg), 0)).bind fun y26 => (loopM (M.VV y26) (([] : List Int), 0)).bind fun y31 => bif decide ((y31.length : Int) > 12) then (some ((⟨([] : List Zg), ([] : List Int)⟩ : Qs), 7)) else (some ((⟨y26, y31⟩ : Qs), 0)))
noncomputable def M.X4 (a0 : List Int) (a1 : Int) (p1 : Int) : Option (Int ⊕ (Unit ⊕ Bool)) :=
  bif decide (p1 < (a0.length : Int)) then (gd [decide (0 ≤ p1), decide (p1 < (a0.length : Int)), guardB (!(decide ((a0.getD p1.toNat default) < 0))) (decide (0 ≤ p1)), guardB (!(decide ((a0.getD p1.toNat default) < 0))) (decide (p1 < (a0.length : Int))), guardB ((!((decide ((a0.getD p1.toNat default) < 0)) || (decide ((a0.getD p1.toNat default) ≥ a1)))) && (decide (p1 > 0))) (decide (0 ≤ p1)), guardB ((!((decide ((a0.getD p1.toNat default) < 0)) || (decide ((a0.getD p1.toNat default) ≥ a1)))) && (decide (p1 > 0))) (decide (p1 < (a0.length : Int))), guardB ((!((decide ((a0.getD p1.toNat default) < 0)) || (decide ((a0.getD p1.toNat default) ≥ a1)))) && (decide (p1 > 0))) (decide (0 ≤ (wr .i64 (p1 - 1)))), guardB ((!((decide ((a0.getD p1.toNat default) < 0)) || (decide ((a0.getD p1.toNat default) ≥ a1)))) && (decide (p1 > 0))) (decide ((wr .i64 (p1 - 1)) < (a0.length : Int)))] (bif ((decide ((a0.getD p1.toNat default) < 0)) || (decide ((a0.getD p1.toNat default) ≥ a1))) || ((decide (p1 > 0)) && (decide ((a0.getD p1.toNat default) ≤ (a0.getD (wr .i64 (p1 - 1)).toNat default)))) then (some (.inr (.inr false))) else (some (.inl (wr .i64 (p1 + 1)))))) else (some (.inr (.inl ())))
noncomputable def M.QG (a0 : List Int) (a1 : Int) : Option Bool :=
  bif decide ((a0.length : Int) > 2) then (some false) else ((loopM (M.X4 a0 a1) 0).bind fun y3 => Sum.elim (fun _ => some true) (fun y5 => some y5) y3)
noncomputable def M.Kt (a0 : Zw) (a1 : List Int) : Option (X3 × Int) :=
  (M.W8 a0).bind fun r1 => bif r1.2 != 0 then (some ((⟨(⟨([] : List Zf)⟩ : Zw), (⟨([] : List Zg), ([] : List Int)⟩ : Qs), ([] : List Int)⟩ : X3), r1.2)) else ((M.QG a1 (r1.1.QA.length : Int)).bind fun r2 => bif !r2 then (some ((⟨(⟨([] : List Zf)⟩ : Zw), (⟨([] : List Zg), ([] : List Int)⟩ : Qs), ([] : List Int)⟩ : X3), 1)) else (gd [decide (0 = 0) || decide (0 < a1.length), decide ((0 + a1.length) * 8 ≤ 140737488355328)] (some ((⟨a0, r1.1, (a1 : List Int)⟩ : X3), 0))))
noncomputable def M.Uo (a0 : Zw) (a1 : List Int) : Option (X3 × Bool) :=
  (M.JP a0).bind fun r1 => bif (!r1) || (decide ((a1.length : Int) > 2)) then (some ((⟨(⟨([] : List Zf)⟩ : Zw), (⟨([] : List Zg), ([] : List Int)⟩ : Qs), ([] : List Int)⟩ : X3), false)) else ((M.Kt a0 a1).bind fun r2 => some (r2.1, r2.2 == 0))
noncomputable def M.Z4 (a0 : List X8) (a1 : X8) (p1 : Int) : Option (Int ⊕ (Unit ⊕ Int)) :=
  bif decide (p1 < (a0.length : Int)) then (gd [decide (0 ≤ p1), decide (p1 < (a0.length : Int))] (bif ((a1.Z5 == ((a0.getD p1.toNat default).Z5)) && ((a1.XY == ((a0.getD p1.toNat default).XY)) && true)) then (some (.inr (.inr p1))) else (some (.inl (wr .i64 (p1 + 1)))))) else (some (.inr (.inl ())))
noncomputable def M.Z9 (a0 : List X8) (a1 : X8) : Option Int :=
  (loopM (M.Z4 a0 a1) 0).bind fun y3 => Sum.elim (fun _ => some (-1)) (fun y5 => some y5) y3
noncomputable def M.ZU (a0 : List X8) (a1 : X8) : Option Bool :=
  (M.Z9 a0 a1).bind fun r1 => some (decide (r1 ≥ 0))
noncomputable def M.Yq (a0 : X3) (a1 : Int) (a2 : Int) (p1 : Int) : Option (Int ⊕ (Unit ⊕ Int)) :=
  bif decide (p1 < (a0.XW.Z1.length : Int)) then (gd [decide (0 ≤ p1), decide (p1 < (a0.XW.Z1.length : Int))] ((M.ZU ((a0.XW.Z1.getD p1.toNat default).ZZ) (⟨a1, a2⟩ : X8)).bind fun r3 => bif r3 then (some (.inr (.inr p1))) else (some (.inl (wr .i64 (p1 + 1)))))) else (some (.inr (.inl ())))
noncomputable def M.Yw (a0 : X3) (a1 : Int) (a2 : Int) : Option Int :=
  (loopM (M.Yq a0 a1 a2) 0).bind fun y4 => Sum.elim (fun _ => some (-1)) (fun y6 => some y6) y4
noncomputable def M.XG (a0 : List Int) (a1 : Int) (p1 : Int) : Option (Int ⊕ (Unit ⊕ Int)) :=
  bif decide (p1 < (a0.length : Int)) then (gd [decide (0 ≤ p1), decide (p1 < (a0.length : Int))] (bif a1 == (a0.getD p1.toNat default) then (some (.inr (.inr p1))) else (some (.inl (wr .i64 (p1 + 1)))))) else (some (.inr (.inl ())))
noncomputable def M.XD (a0 : List Int) (a1 : Int) : Option Int :=
  (loopM (M.XG a0 a1) 0).bind fun y3 => Sum.elim (fun _ => some (-1)) (fun y5 => some y5) y3
noncomputable def M.JR (a0 : X3) (a1 : Int) (a2 : Int) : Option Int :=
  (M.Yw a0 a1 a2).bind fun r1 => bif decide (r1 < 0) then (some (-1)) else ((M.XD a0.XW.QA r1).bind fun r2 => some r2)
noncomputable def M.Xv (a0 : List Int) (a1 : Int) : Option Bool :=
  (M.XD a0 a1).bind fun r1 => some (decide (r1 ≥ 0))
noncomputable def M.Vl (a0 : X3) (a1 : Int) (a2 : Int) : Option Bool :=
  (M.Yw a0 a1 a2).bind fun r1 => bif decide (r1 < 0) then (some false) else ((M.JR a0 a1 a2).bind fun r2 => (gc (!(decide (r2 < 0))) (M.Xv a0.V0 r2)).bind fun r3 => some ((decide (r2 < 0)) || (!r3)))
noncomputable def M.Vx (p3 : (List X8) × Int) (p5 : (List X8)) : Option (((List X8) × Int) ⊕ (List X8)) :=
  some (.inl (p5, wr .i64 (p3.2 + 1)))
noncomputable def M.W0 (a0 : X3) (a1 : Int) (a2 : Int) (r2 : Int) (p3 : (List X8) × Int) : Option (((List X8) × Int) ⊕ (List X8)) :=
  bif decide (p3.2 < (((a0.XW.Z1.getD r2.toNat default).ZZ).length : Int)) then (gd [decide (0 ≤ p3.2), decide (p3.2 < (((a0.XW.Z1.getD r2.toNat default).ZZ).length : Int))] (bif (((((a0.XW.Z1.getD r2.toNat default).ZZ).getD p3.2.toNat default).Z5) != a1) || (((((a0.XW.Z1.getD r2.toNat default).ZZ).getD p3.2.toNat default).XY) != a2) then (gd [decide ((p3.1.length + 1) * 16 ≤ 140737488355328)] (M.Vx p3 (p3.1 ++ [((a0.XW.Z1.getD r2.toNat default).ZZ).getD p3.2.toNat default]))) else (M.Vx p3 p3.1))) else (some (.inr p3.1))
noncomputable def M.Wt (a0 : X3) (a1 : Int) (a2 : Int) : Option (List X8) :=
  (M.Vl a0 a1 a2).bind fun r1 => bif !r1 then (some ([] : List X8)) else ((M.Yw a0 a1 a2).bind fun r2 => gd [decide (0 ≤ r2), decide (r2 < (a0.XW.Z1.length : Int))] ((loopM (M.W0 a0 a1 a2 r2) (([] : List X8), 0)).bind fun y6 => some y6))
noncomputable def M.QI (a0 : X3) (a1 : X8) : Option (Zl × Bool) :=
  bif (decide (a1.Z5 < 0)) || (decide (a1.Z5 ≥ (a0.Qq.Zd.length : Int))) then (some ((⟨(⟨#[]⟩ : ByteArray), 0, 0, 0, false, false, 0, 0, false, (⟨#[]⟩ : ByteArray), (⟨#[]⟩ : ByteArray), 0⟩ : Zl), false)) else (gd [decide (0 ≤ a1.Z5), decide (a1.Z5 < (a0.Qq.Zd.length : Int))] (bif (decide (a1.XY < 0)) || (decide (a1.XY ≥ (((a0.Qq.Zd.getD a1.Z5.toNat default).Zc).length : Int))) then (some ((⟨(⟨#[]⟩ : ByteArray), 0, 0, 0, false, false, 0, 0, false, (⟨#[]⟩ : ByteArray), (⟨#[]⟩ : ByteArray), 0⟩ : Zl), false)) else (gd [decide (0 ≤ a1.XY), decide (a1.XY < (((a0.Qq.Zd.getD a1.Z5.toNat default).Zc).length : Int))] (some (((a0.Qq.Zd.getD a1.Z5.toNat default).Zc).getD a1.XY.toNat default, true)))))
noncomputable def M.We (a0 : X3) (a3 : Int) (r1 : (List X8)) (p2 : Int) : Option (Int ⊕ (Unit ⊕ (X8 × Bool))) :=
  bif decide (p2 < (r1.length : Int)) then (gd [decide (0 ≤ p2), decide (p2 < (r1.length : Int))] ((M.QI a0 (r1.getD p2.toNat default)).bind fun r4 => bif r4.2 && (r4.1.Zs == a3) then (some (.inr (.inr (r1.getD p2.toNat default, true)))) else (some (.inl (wr .i64 (p2 + 1)))))) else (some (.inr (.inl ())))
noncomputable def M.W9 (a0 : X3) (a1 : Int) (a2 : Int) (a3 : Int) : Option (X8 × Bool) :=
  (M.Wt a0 a1 a2).bind fun r1 => (loopM (M.We a0 a3 r1) 0).bind fun y5 => Sum.elim (fun _ => some ((⟨0, 0⟩ : X8), false)) (fun y7 => some y7) y5
noncomputable def M.VW  : Option Zw :=
  some (⟨([(⟨(⟨#[97]⟩ : ByteArray), 0, ([(⟨(⟨#[101, 48]⟩ : ByteArray), 167772161, 24, 0, false, false, 0, 0, false, (⟨#[]⟩ : ByteArray), (⟨#[]⟩ : ByteArray), 0⟩ : Zl)] : List Zl), ([] : List Z2), ([] : List X6), ([] : List WV), ([] : List YR), ([] : List YS), (⟨false, 0, ([] : List J0), ([] : List YJ)⟩ : Vf), (⟨false, 0, (⟨#[]⟩ : ByteArray), (⟨#[]⟩ : ByteArray), ([] : List YJ)⟩ : YB), (⟨false, 0, 0, ([] : List Jt), ([] : List ZX), ([] : List J1), ([] : List J2), ([] : List YJ)⟩ : Xw)⟩ : Zf), (⟨(⟨#[98]⟩ : ByteArray), 0, ([(⟨(⟨#[101, 48]⟩ : ByteArray), 167772162, 24, 0, false, false, 0, 0, false, (⟨#[]⟩ : ByteArray), (⟨#[]⟩ : ByteArray), 0⟩ : Zl), (⟨(⟨#[101, 49]⟩ : ByteArray), 167772418, 24, 0, false, false, 0, 0, false, (⟨#[]⟩ : ByteArray), (⟨#[]⟩ : ByteArray), 0⟩ : Zl)] : List Zl), ([] : List Z2), ([] : List X6), ([] : List WV), ([] : List YR), ([] : List YS), (⟨false, 0, ([] : List J0), ([] : List YJ)⟩ : Vf), (⟨false, 0, (⟨#[]⟩ : ByteArray), (⟨#[]⟩ : ByteArray), ([] : List YJ)⟩ : YB), (⟨false, 0, 0, ([] : List Jt), ([] : List ZX), ([] : List J1), ([] : List J2), ([] : List YJ)⟩ : Xw)⟩ : Zf)] : List Zf)⟩ : Zw)
noncomputable def M.Vt (a0 : Int) : Option Bool :=
  some (((decide (65 ≤ a0)) && (decide (a0 ≤ 90))) || ((decide (97 ≤ a0)) && (decide (a0 ≤ 122))))
noncomputable def M.WI (a0 : Int) : Option Bool :=
  some ((decide (48 ≤ a0)) && (decide (a0 ≤ 57)))
noncomputable def M.V6 (a0 : ByteArray) (p2 : Int) : Option (Int ⊕ Unit) :=
  bif decide (p2 < (a0.size : Int)) then (gd [decide (0 ≤ p2), decide (p2 < (a0.size : Int))] ((M.Vt (byteAt a0 p2)).bind fun r4 => (gc (!r4) (M.WI (byteAt a0 p2))).bind fun r5 => bif (((((!r4) && (!r5)) && ((byteAt a0 p2) != 45)) && ((byteAt a0 p2) != 95)) && ((byteAt a0 p2) != 47)) && ((byteAt a0 p2) != 46) then none else (some (.inl (wr .i64 (p2 + 1)))))) else (some (.inr ()))
noncomputable def M.Wu (a0 : ByteArray) : Option Bool :=
  (gc (!((decide ((a0.size : Int) < 1)) || (decide ((a0.size : Int) > 15)))) (M.Vt (byteAt a0 0))).bind fun r1 => gd [guardB (!((decide ((a0.size : Int) < 1)) || (decide ((a0.size : Int) > 15)))) (decide (0 ≤ 0)), guardB (!((decide ((a0.size : Int) < 1)) || (decide ((a0.size : Int) > 15)))) (decide (0 < (a0.size : Int)))] (bif ((decide ((a0.size : Int) < 1)) || (decide ((a0.size : Int) > 15))) || (!r1) then none else ((loopM (M.V6 a0) 1).bind fun y6 => some true))
noncomputable def M.Qv (a0 : Int) (a1 : Int) (a2 : Int) : Option Bool :=
  some ((decide (a1 ≤ a0)) && (decide (a0 ≤ a2)))
noncomputable def M.QV (a0 : Zl) (b0 : ByteArray) : Option Bool :=
  some (strEq a0.Xl b0)
noncomputable def M.ZP (a0 : List Zl) (a1c0 : ByteArray) (p1 : Int) : Option (Int ⊕ (Unit ⊕ Int)) :=
  bif decide (p1 < (a0.length : Int)) then ((M.QV (a0.getD p1.toNat default) a1c0).bind fun r3 => gd [decide (0 ≤ p1), decide (p1 < (a0.length : Int))] (bif r3 then (some (.inr (.inr p1))) else (some (.inl (wr .i64 (p1 + 1)))))) else (some (.inr (.inl ())))
noncomputable def M.ZF (a0 : List Zl) (a1c0 : ByteArray) : Option Int :=
  (loopM (M.ZP a0 a1c0) 0).bind fun y4 => Sum.elim (fun _ => some (-1)) (fun y6 => some y6) y4
noncomputable def M.JE (a0 : Zf) (a1 : ByteArray) : Option Int :=
  (M.ZF a0.Zc a1).bind fun r1 => some r1
noncomputable def M.Y2 (a0 : Zl) : Option Bool :=
  (M.Qv a0.ZR 0 32).bind fun r1 => (gc (!(!r1)) (M.Qv a0.XB 0 4094)).bind fun r2 => (gc (!((!r1) || (!r2))) (M.Qv a0.Rl 0 2)).bind fun r3 => bif ((!r1) || (!r2)) || (!r3) then none else (bif (a0.ZR == 0) && (((((((a0.Zs != 0) || (a0.XB != 0)) || (a0.Rl != 0)) || a0.Yf) || a0.Ym) || (!strEq a0.VG (⟨#[]⟩ : ByteArray))) || (!strEq a0.Y7 (⟨#[]⟩ : ByteArray))) then none else (bif (a0.ZR != 0) && (a0.Zs == 0) then none else (bif a0.Yf then none else (some ((a0.VQ == 0) && (a0.Zbz == 0))))))
noncomputable def M.VX (a0 : Int) : Option Int :=
  some (if (if 32 < a0 then 32 else a0) > 0 then (if 32 < a0 then 32 else a0) else 0)
noncomputable def M.Wv (a0 : Int) : Option Int :=
  (M.VX a0).bind fun r1 => gd [decide (0 ≤ (wr .i64 (32 - r1)))] (some (wr .u32 (4294967295 * 2 ^ min (wr .i64 (32 - r1)).toNat 32)))
noncomputable def M.Jh (a0 : Int) (a1 : Int) : Option ZX :=
  (M.Wv a1).bind fun r1 => (M.VX a1).bind fun r2 => some (⟨bitD .and .u32 a0 r1, r2⟩ : ZX)
noncomputable def M.Vm (a0 : ZX) (a1 : Int) : Option Bool :=
  (M.Wv a0.ZR).bind fun r1 => some ((bitD .and .u32 a1 r1) == a0.Zs)
noncomputable def M.Vu (a0 : ZX) (a1 : ZX) : Option Bool :=
  (gc (decide (a0.ZR ≤ a1.ZR)) (M.Vm a0 a1.Zs)).bind fun r1 => some ((decide (a0.ZR ≤ a1.ZR)) && r1)
noncomputable def M.Vn (a0 : ZX) (a1 : ZX) : Option Bool :=
  (M.Vu a0 a1).bind fun r1 => (gc (!r1) (M.Vu a1 a0)).bind fun r2 => some (r1 || r2)
noncomputable def M.Yx (a0 : Zf) (p1 : Int) (p6 : Int) : Option (Int ⊕ Unit) :=
  bif decide (p6 < ((p1.toNat - 0 : Nat) : Int)) then (gd [decide (0 ≤ p6), decide (p6 < (((a0.Zc.drop 0).take (p1.toNat - 0)).length : Int))] ((gc ((((a0.Zc.getD p1.toNat default).ZR) != 0) && (((((a0.Zc.drop 0).take (p1.toNat - 0)).getD p6.toNat default).ZR) != 0)) (M.Jh ((a0.Zc.getD p1.toNat default).Zs) ((a0.Zc.getD p1.toNat default).ZR))).bind fun r8 => (gc ((((a0.Zc.getD p1.toNat default).ZR) != 0) && (((((a0.Zc.drop 0).take (p1.toNat - 0)).getD p6.toNat default).ZR) != 0)) (M.Jh ((((a0.Zc.drop 0).take (p1.toNat - 0)).getD p6.toNat default).Zs) ((((a0.Zc.drop 0).take (p1.toNat - 0)).getD p6.toNat default).ZR))).bind fun r9 => (gc ((((a0.Zc.getD p1.toNat default).ZR) != 0) && (((((a0.Zc.drop 0).take (p1.toNat - 0)).getD p6.toNat default).ZR) != 0)) (M.Vn r8 r9)).bind fun r10 => bif ((((a0.Zc.getD p1.toNat default).ZR) != 0) && (((((a0.Zc.drop 0).take (p1.toNat - 0)).getD p6.toNat default).ZR) != 0)) && r10 then none else (some (.inl (wr .i64 (p6 + 1)))))) else (some (.inr ()))
noncomputable def M.Yy (a0 : Zf) (p1 : Int) : Option (Int ⊕ Unit) :=
  bif decide (p1 < (a0.Zc.length : Int)) then (gd [decide (0 ≤ p1), decide (p1 < (a0.Zc.length : Int))] ((M.Wu ((a0.Zc.getD p1.toNat default).Xl)).bind fun r3 => bif !r3 then none else ((M.JE a0 ((a0.Zc.getD p1.toNat default).Xl)).bind fun r4 => bif decide (r4 < p1) then none else ((M.Y2 (a0.Zc.getD p1.toNat default)).bind fun r5 => bif !r5 then none else (gd [decide (0 ≤ p1), decide (p1 ≤ (a0.Zc.length : Int))] ((loopM (M.Yx a0 p1) 0).bind fun y11 => some (.inl (wr .i64 (p1 + 1))))))))) else (some (.inr ()))
noncomputable def M.YK (a0 : Zf) : Option Int :=
  bif decide ((a0.Zc.length : Int) > 8) then none else ((loopM (M.Yy a0) 0).bind fun y12 => some 0)
noncomputable def M.Yp (a0 : Zf) (p1 : Int) : Option (Int ⊕ Unit) :=
  bif decide (p1 < (a0.Yt.length : Int)) then none else (some (.inr ()))
noncomputable def M.Yu (a0 : Zf) : Option Int :=
  bif decide ((a0.Yt.length : Int) > 8) then none else ((loopM (M.Yp a0) 0).bind fun y3 => some 0)
noncomputable def M.YM (a0 : Zf) (p1 : Int) : Option (Int ⊕ Unit) :=
  bif decide (p1 < (a0.XC.length : Int)) then none else (some (.inr ()))
noncomputable def M.Y3 (a0 : Zf) : Option Int :=
  bif decide ((a0.XC.length : Int) > 8) then none else ((loopM (M.YM a0) 0).bind fun y3 => some 0)
noncomputable def M.Q3 (a0 : Zf) (p1 : Int) : Option (Int ⊕ Unit) :=
  bif decide (p1 < (a0.YC.length : Int)) then none else (some (.inr ()))
noncomputable def M.JF (a0 : Zf) : Option Int :=
  bif decide ((a0.YC.length : Int) > 8) then none else ((loopM (M.Q3 a0) 0).bind fun y3 => some 0)
noncomputable def M.Jr (a0 : Zf) (p1 : Int) : Option (Int ⊕ Unit) :=
  bif decide (p1 < (a0.Xd.length : Int)) then none else (some (.inr ()))
noncomputable def M.J7 (a0 : Zf) : Option Int :=
  bif decide ((a0.Xd.length : Int) > 8) then none else ((loopM (M.Jr a0) 0).bind fun y3 => some 0)
noncomputable def M.Ww (_a0 : Zf) (_a1 : ByteArray) : Option Int :=
  none
noncomputable def M.Qa (a0 : Zf) (p1 : Int) : Option (Int ⊕ Unit) :=
  bif decide (p1 < (a0.Zc.length : Int)) then (gd [decide (0 ≤ p1), decide (p1 < (a0.Zc.length : Int))] ((gc (!strEq ((a0.Zc.getD p1.toNat default).VG) (⟨#[]⟩ : ByteArray)) (M.Ww a0 ((a0.Zc.getD p1.toNat default).VG))).bind fun r3 => (gc ((!((!strEq ((a0.Zc.getD p1.toNat default).VG) (⟨#[]⟩ : ByteArray)) && (decide (r3 < 0)))) && (!strEq ((a0.Zc.getD p1.toNat default).Y7) (⟨#[]⟩ : ByteArray))) (M.Ww a0 ((a0.Zc.getD p1.toNat default).Y7))).bind fun r4 => bif ((!strEq ((a0.Zc.getD p1.toNat default).VG) (⟨#[]⟩ : ByteArray)) && (decide (r3 < 0))) || ((!strEq ((a0.Zc.getD p1.toNat default).Y7) (⟨#[]⟩ : ByteArray)) && (decide (r4 < 0))) then none else (some (.inl (wr .i64 (p1 + 1)))))) else (some (.inr ()))
noncomputable def M.Qw (a0 : Zf) : Option Int :=
  (loopM (M.Qa a0) 0).bind fun y5 => some 0
noncomputable def M.Qb (a0 : Zf) (p1 : Int) : Option (Int ⊕ Unit) :=
  bif decide (p1 < (a0.Zq.length : Int)) then none else (some (.inr ()))
noncomputable def M.Qx (a0 : Zf) : Option Int :=
  bif decide ((a0.Zq.length : Int) > 16) then none else ((loopM (M.Qb a0) 0).bind fun y3 => some 0)
noncomputable def M.Y4 (a0 : Zf) : Option Int :=
  bif !a0.Yf.Vq then (bif ((a0.Yf.Xq != 0) || (decide ((a0.Yf.Z6.length : Int) > 0))) || (decide ((a0.Yf.Zr.length : Int) > 0)) then none else (some 0)) else none
noncomputable def M.X7 (a0 : Zf) : Option Int :=
  bif !a0.Ym.Vq then (bif (((a0.Ym.Xq != 0) || (!strEq a0.Ym.VG (⟨#[]⟩ : ByteArray))) || (!strEq a0.Ym.Y7 (⟨#[]⟩ : ByteArray))) || (decide ((a0.Ym.Zr.length : Int) > 0)) then none else (some 0)) else none
noncomputable def M.YL (a0 : Zf) : Option Int :=
  bif !a0.Xr.Vq then (bif ((((((a0.Xr.XU != 0) || (a0.Xr.XV != 0)) || (decide ((a0.Xr.Zm.length : Int) > 0))) || (decide ((a0.Xr.Z0.length : Int) > 0))) || (decide ((a0.Xr.ZC.length : Int) > 0))) || (decide ((a0.Xr.Zt.length : Int) > 0))) || (decide ((a0.Xr.Zr.length : Int) > 0)) then none else (some 0)) else none
noncomputable def M.QW (a0 : Zf) : Option Int :=
  (M.Wu a0.Xl).bind fun r1 => bif !r1 then none else ((M.Qv a0.Ge 0 65535).bind fun r2 => bif !r2 then none else (gd [decide (0 ≤ 0), decide (0 < (10 : Int))] ((M.YK a0).bind fun r3 => bif r3 != 0 then none else (gd [decide (0 ≤ 1), decide (1 < (10 : Int))] ((M.Yu a0).bind fun r4 => bif r4 != 0 then none else (gd [decide (0 ≤ 2), decide (2 < (10 : Int))] ((M.Y3 a0).bind fun r5 => bif r5 != 0 then none else (gd [decide (0 ≤ 3), decide (3 < (10 : Int))] ((M.JF a0).bind fun r6 => bif r6 != 0 then none else (gd [decide (0 ≤ 4), decide (4 < (10 : Int))] ((M.J7 a0).bind fun r7 => bif r7 != 0 then none else (gd [decide (0 ≤ 5), decide (5 < (10 : Int))] ((M.Qw a0).bind fun r8 => bif r8 != 0 then none else (gd [decide (0 ≤ 6), decide (6 < (10 : Int))] ((M.Qx a0).bind fun r9 => bif r9 != 0 then none else (gd [decide (0 ≤ 7), decide (7 < (10 : Int))] ((M.Y4 a0).bind fun r10 => bif r10 != 0 then none else (gd [decide (0 ≤ 8), decide (8 < (10 : Int))] ((M.X7 a0).bind fun r11 => bif r11 != 0 then none else (gd [decide (0 ≤ 9), decide (9 < (10 : Int))] ((M.YL a0).bind fun r12 => bif r12 != 0 then none else (some 0))))))))))))))))))))))
noncomputable def M.JG (a0 : Zl) (b0 : Int) : Option Bool :=
  some ((a0.ZR != 0) && (a0.Zs == b0))
noncomputable def M.ZQ (a0 : List Zl) (a1c0 : Int) (p1 : Int) : Option (Int ⊕ (Unit ⊕ Int)) :=
  bif decide (p1 < (a0.length : Int)) then ((M.JG (a0.getD p1.toNat default) a1c0).bind fun r3 => gd [decide (0 ≤ p1), decide (p1 < (a0.length : Int))] (bif r3 then (some (.inr (.inr p1))) else (some (.inl (wr .i64 (p1 + 1)))))) else (some (.inr (.inl ())))
noncomputable def M.ZJ (a0 : List Zl) (a1c0 : Int) : Option Int :=
  (loopM (M.ZQ a0 a1c0) 0).bind fun y4 => Sum.elim (fun _ => some (-1)) (fun y6 => some y6) y4
noncomputable def M.Vo (a0 : Zf) (a1 : Int) : Option Int :=
  (M.ZJ a0.Zc a1).bind fun r1 => some r1
noncomputable def M.Y5 (a0 : Zl) (b0 : Zf) : Option Bool :=
  (gc (a0.ZR != 0) (M.Vo b0 a0.Zs)).bind fun r1 => some ((a0.ZR != 0) && (decide (r1 ≥ 0)))
noncomputable def M.ZG (a0 : List Zl) (a1c0 : Zf) (p1 : Int) : Option (Int ⊕ (Unit ⊕ Int)) :=
  bif decide (p1 < (a0.length : Int)) then ((M.Y5 (a0.getD p1.toNat default) a1c0).bind fun r3 => gd [decide (0 ≤ p1), decide (p1 < (a0.length : Int))] (bif r3 then (some (.inr (.inr p1))) else (some (.inl (wr .i64 (p1 + 1)))))) else (some (.inr (.inl ())))
noncomputable def M.ZB (a0 : List Zl) (a1c0 : Zf) : Option Int :=
  (loopM (M.ZG a0 a1c0) 0).bind fun y4 => Sum.elim (fun _ => some (-1)) (fun y6 => some y6) y4
noncomputable def M.Zz (a0 : List Zl) (a1c0 : Zf) : Option Bool :=
  (M.ZB a0 a1c0).bind fun r1 => some (decide (r1 ≥ 0))
noncomputable def M.Qy (a0 : Zf) (a1 : Zf) : Option Bool :=
  (M.Zz a1.Zc a0).bind fun r1 => some r1
noncomputable def M.Vv (a0 : Zw) (p1 : Int) (p4 : Int) : Option (Int ⊕ Unit) :=
  bif decide (p4 < ((p1.toNat - 0 : Nat) : Int)) then (gd [decide (0 ≤ p4), decide (p4 < (((a0.Zd.drop 0).take (p1.toNat - 0)).length : Int))] ((gc (!(strEq ((((a0.Zd.drop 0).take (p1.toNat - 0)).getD p4.toNat default).Xl) ((a0.Zd.getD p1.toNat default).Xl))) (M.Qy (((a0.Zd.drop 0).take (p1.toNat - 0)).getD p4.toNat default) (a0.Zd.getD p1.toNat default))).bind fun r6 => bif (strEq ((((a0.Zd.drop 0).take (p1.toNat - 0)).getD p4.toNat default).Xl) ((a0.Zd.getD p1.toNat default).Xl)) || r6 then none else (some (.inl (wr .i64 (p4 + 1)))))) else (some (.inr ()))
noncomputable def M.Vw (a0 : Zw) (p1 : Int) : Option (Int ⊕ Unit) :=
  bif decide (p1 < (a0.Zd.length : Int)) then (gd [decide (0 ≤ p1), decide (p1 < (a0.Zd.length : Int))] ((M.QW (a0.Zd.getD p1.toNat default)).bind fun r3 => bif r3 != 0 then none else (gd [decide (0 ≤ p1), decide (p1 ≤ (a0.Zd.length : Int))] ((loopM (M.Vv a0 p1) 0).bind fun y7 => some (.inl (wr .i64 (p1 + 1))))))) else (some (.inr ()))
noncomputable def M.V7 (a0 : Zw) : Option Int :=
  bif decide ((a0.Zd.length : Int) > 8) then none else ((loopM (M.Vw a0) 0).bind fun y8 => some 0)
noncomputable def M.Q4 (i : Int) (p : (List Zg) × (List (Xa × Int)) × Int) (q : (List Zg) × (List (Xa × Int)) × Int) : Option (((List Zg) × (List (Xa × Int)) × Int) ⊕ ((List Zg) × (List (Xa × Int)))) :=
  gd [decide (0 ≤ q.2.2), decide (q.2.2 < (q.1.length : Int)), decide (((q.1.getD (0 + q.2.2.toNat) default).ZZ.length + 1) * 16 ≤ 140737488355328)] (some (.inl (q.1.set (0 + q.2.2.toNat) ⟨(q.1.getD (0 + q.2.2.toNat) default).Zo, (q.1.getD (0 + q.2.2.toNat) default).XB, (q.1.getD (0 + q.2.2.toNat) default).ZZ ++ [⟨i, p.2.2⟩]⟩, q.2.1, wr .i64 (p.2.2 + 1))))
noncomputable def M.JH (a0 : Zw) (i : Int) (p : (List Zg) × (List (Xa × Int)) × Int) : Option (((List Zg) × (List (Xa × Int)) × Int) ⊕ ((List Zg) × (List (Xa × Int)))) :=
  bif decide (p.2.2 < (((a0.Zd.getD i.toNat default).Zc).length : Int)) then (gd [decide (0 ≤ p.2.2), decide (p.2.2 < (((a0.Zd.getD i.toNat default).Zc).length : Int))] (bif (((a0.Zd.getD i.toNat default).Zc.getD p.2.2.toNat default).ZR == 0) || ((a0.Zd.getD i.toNat default).Zc.getD p.2.2.toNat default).V0 then (some (.inl (p.1, p.2.1, wr .i64 (p.2.2 + 1)))) else ((M.Jh ((a0.Zd.getD i.toNat default).Zc.getD p.2.2.toNat default).Zs ((a0.Zd.getD i.toNat default).Zc.getD p.2.2.toNat default).ZR).bind fun r => bif !(lkM (topoKeyEq ⟨r, ((a0.Zd.getD i.toNat default).Zc.getD p.2.2.toNat default).XB⟩) p.2.1).2 then (gd [decide ((p.1.length + 1) * 48 ≤ 140737488355328)] (M.Q4 i p (p.1 ++ [⟨r, ((a0.Zd.getD i.toNat default).Zc.getD p.2.2.toNat default).XB, []⟩], p.2.1 ++ [(⟨r, ((a0.Zd.getD i.toNat default).Zc.getD p.2.2.toNat default).XB⟩, (p.1.length : Int))], (p.1.length : Int)))) else (M.Q4 i p (p.1, p.2.1, (lkM (topoKeyEq ⟨r, ((a0.Zd.getD i.toNat default).Zc.getD p.2.2.toNat default).XB⟩) p.2.1).1))))) else (some (.inr (p.1, p.2.1)))
noncomputable def M.JI (a0 : Zw) (p : (List Zg) × (List (Xa × Int)) × Int) : Option (((List Zg) × (List (Xa × Int)) × Int) ⊕ (List Zg)) :=
  bif decide (p.2.2 < (a0.Zd.length : Int)) then (gd [decide (0 ≤ p.2.2), decide (p.2.2 < (a0.Zd.length : Int))] ((loopM (M.JH a0 p.2.2) (p.1, p.2.1, 0)).bind fun y => some (.inl (y.1, y.2, wr .i64 (p.2.2 + 1))))) else (some (.inr p.1))
noncomputable def M.VI (a0 : Zw) : Option (List Zg) :=
  (loopM (M.JI a0) ([], [], 0)).bind fun y => some y
noncomputable def M.YA (a0 : Int) : Option Bool :=
  some (a0 != a0)
noncomputable def M.YI (a0 : Int) (a1 : Int) : Option Int :=
  (M.YA a0).bind fun r1 => (M.YA a1).bind fun r2 => bif r1 then (bif r2 then (some 0) else (some (-1))) else (bif r2 then (some 1) else (bif decide (a0 < a1) then (some (-1)) else (bif decide (a0 > a1) then (some 1) else (some 0))))
noncomputable def M.QJ (a0 : Int) : Option Bool :=
  some (a0 != a0)
noncomputable def M.YO (a0 : Int) (a1 : Int) : Option Int :=
  (M.QJ a0).bind fun r1 => (M.QJ a1).bind fun r2 => bif r1 then (bif r2 then (some 0) else (some (-1))) else (bif r2 then (some 1) else (bif decide (a0 < a1) then (some (-1)) else (bif decide (a0 > a1) then (some 1) else (some 0))))
noncomputable def M.J8 (a0 : ZX) (a1 : ZX) : Option Int :=
  (M.YI a0.Zs a1.Zs).bind fun r1 => bif r1 != 0 then (some r1) else ((M.YO a0.ZR a1.ZR).bind fun r2 => some r2)
noncomputable def M.Qo (a0 : List Int) (p1 : Int) : Option (Int ⊕ (Unit ⊕ Int)) :=
  bif decide (p1 < (a0.length : Int)) then (gd [decide (0 ≤ p1), decide (p1 < (a0.length : Int))] (bif (a0.getD p1.toNat default) != 0 then (some (.inr (.inr (a0.getD p1.toNat default)))) else (some (.inl (wr .i64 (p1 + 1)))))) else (some (.inr (.inl ())))
noncomputable def M.VY (a0 : List Int) : Option Int :=
  (loopM (M.Qo a0) 0).bind fun y3 => Sum.elim (fun _ => some 0) (fun y5 => some y5) y3
noncomputable def M.JJ (a0 : Zg) (a1 : Zg) : Option Int :=
  (M.J8 a0.Zo a1.Zo).bind fun r1 => (M.YO a0.XB a1.XB).bind fun r2 => (M.VY ([r1, r2] : List Int)).bind fun r3 => some r3
noncomputable def M.XA (a0 : List Zg) : Option (List Zg) :=
  sortU M.JJ a0
noncomputable def M.Jw (p5 : (List Int) × Int) (p7 : (List Int)) : Option (((List Int) × Int) ⊕ (List Int)) :=
  some (.inl (p7, wr .i64 (p5.2 + 1)))
noncomputable def M.VL (r3 : (List Zg)) (p5 : (List Int) × Int) : Option (((List Int) × Int) ⊕ (List Int)) :=
  bif decide (p5.2 < (r3.length : Int)) then (gd [decide (0 ≤ p5.2), decide (p5.2 < (r3.length : Int))] (bif decide ((((r3.getD p5.2.toNat default).ZZ).length : Int) ≥ 2) then (gd [decide ((p5.1.length + 1) * 8 ≤ 140737488355328)] (M.Jw p5 (p5.1 ++ [p5.2]))) else (M.Jw p5 p5.1))) else (some (.inr p5.1))
noncomputable def M.WJ (a0 : Zw) : Option (Qs × Int) :=
  (M.V7 a0).bind fun r1 => bif r1 != 0 then none else ((M.VI a0).bind fun r2 => (M.XA r2).bind fun r3 => gd [decide (r3.length = r2.length)] ((loopM (M.VL r3) (([] : List Int), 0)).bind fun y8 => bif decide ((y8.length : Int) > 12) then none else (some ((⟨r3, y8⟩ : Qs), 0))))
noncomputable def M.XJ (a0 : List Zf) : Option (List Zf) :=
  gd [decide (0 = 0) || decide (0 < a0.length), decide ((0 + a0.length) * 448 ≤ 140737488355328)] (some a0)
noncomputable def M.Xm (a0 : List Zl) : Option (List Zl) :=
  gd [decide (0 = 0) || decide (0 < a0.length), decide ((0 + a0.length) * 112 ≤ 140737488355328)] (some a0)
noncomputable def M.Xh (a0 : List Z2) : Option (List Z2) :=
  gd [decide (0 = 0) || decide (0 < a0.length), decide ((0 + a0.length) * 40 ≤ 140737488355328)] (some a0)
noncomputable def M.Xt (a0 : List X6) : Option (List X6) :=
  gd [decide (0 = 0) || decide (0 < a0.length), decide ((0 + a0.length) * 40 ≤ 140737488355328)] (some a0)
noncomputable def M.X0 (a0 : List WV) : Option (List WV) :=
  gd [decide (0 = 0) || decide (0 < a0.length), decide ((0 + a0.length) * 40 ≤ 140737488355328)] (some a0)
noncomputable def M.Xe (a0 : List YR) : Option (List YR) :=
  gd [decide (0 = 0) || decide (0 < a0.length), decide ((0 + a0.length) * 64 ≤ 140737488355328)] (some a0)
noncomputable def M.Xf (a0 : List YS) : Option (List YS) :=
  gd [decide (0 = 0) || decide (0 < a0.length), decide ((0 + a0.length) * 64 ≤ 140737488355328)] (some a0)
noncomputable def M.Xn (a0 : List J0) : Option (List J0) :=
  gd [decide (0 = 0) || decide (0 < a0.length), decide ((0 + a0.length) * 24 ≤ 140737488355328)] (some a0)
noncomputable def M.Z8 (a0 : List YJ) : Option (List YJ) :=
  gd [decide (0 = 0) || decide (0 < a0.length), decide ((0 + a0.length) * 48 ≤ 140737488355328)] (some a0)
noncomputable def M.Xu (a0 : List Jt) : Option (List Jt) :=
  gd [decide (0 = 0) || decide (0 < a0.length), decide ((0 + a0.length) * 48 ≤ 140737488355328)] (some a0)
noncomputable def M.XK (a0 : List ZX) : Option (List ZX) :=
  gd [decide (0 = 0) || decide (0 < a0.length), decide ((0 + a0.length) * 16 ≤ 140737488355328)] (some a0)
noncomputable def M.Xo (a0 : List J1) : Option (List J1) :=
  gd [decide (0 = 0) || decide (0 < a0.length), decide ((0 + a0.length) * 24 ≤ 140737488355328)] (some a0)
noncomputable def M.Xp (a0 : List J2) : Option (List J2) :=
  gd [decide (0 = 0) || decide (0 < a0.length), decide ((0 + a0.length) * 40 ≤ 140737488355328)] (some a0)
noncomputable def M.Q5 (r2 : (List Z2)) (p3 : Int) : Option (Int ⊕ Unit) :=
  bif decide (p3 < (r2.length : Int)) then none else (some (.inr ()))
noncomputable def M.Q6 (r6 : (List X6)) (p7 : Int) : Option (Int ⊕ Unit) :=
  bif decide (p7 < (r6.length : Int)) then none else (some (.inr ()))
noncomputable def M.Q7 (r10 : (List WV)) (p11 : Int) : Option (Int ⊕ Unit) :=
  bif decide (p11 < (r10.length : Int)) then none else (some (.inr ()))
noncomputable def M.JK (a0 : Zf) : Option Zf :=
  (M.Xm a0.Zc).bind fun r1 => (M.Xh a0.Yt).bind fun r2 => (loopM (M.Q5 r2) 0).bind fun y5 => (M.Xt a0.XC).bind fun r6 => (loopM (M.Q6 r6) 0).bind fun y9 => (M.X0 a0.YC).bind fun r10 => (loopM (M.Q7 r10) 0).bind fun y13 => (M.Xe a0.Xd).bind fun r14 => (M.Xf a0.Zq).bind fun r15 => (M.Xn a0.Yf.Z6).bind fun r16 => (M.Z8 a0.Yf.Zr).bind fun r17 => (M.Z8 a0.Ym.Zr).bind fun r18 => (M.Xu a0.Xr.Zm).bind fun r19 => (M.XK a0.Xr.Z0).bind fun r20 => (M.Xo a0.Xr.ZC).bind fun r21 => (M.Xp a0.Xr.Zt).bind fun r22 => (M.Z8 a0.Xr.Zr).bind fun r23 => some (⟨a0.Xl, a0.Ge, r1, r2, r6, r10, r14, r15, (⟨a0.Yf.Vq, a0.Yf.Xq, r16, r17⟩ : Vf), (⟨a0.Ym.Vq, a0.Ym.Xq, a0.Ym.VG, a0.Ym.Y7, r18⟩ : YB), (⟨a0.Xr.Vq, a0.Xr.XU, a0.Xr.XV, r19, r20, r21, r22, r23⟩ : Xw)⟩ : Zf)
noncomputable def M.QL (r1 : (List Zf)) (p2 : (List Zf) × Int) : Option (((List Zf) × Int) ⊕ (List Zf)) :=
  bif decide (p2.2 < (r1.length : Int)) then ((M.JK (p2.1.getD (0 + p2.2.toNat) default)).bind fun r4 => gd [decide (0 ≤ p2.2), decide (p2.2 < (p2.1.length : Int)), decide (0 ≤ p2.2), decide (p2.2 < (p2.1.length : Int))] (some (.inl (p2.1.set (0 + p2.2.toNat) r4, wr .i64 (p2.2 + 1))))) else (some (.inr p2.1))
noncomputable def M.Ji (a0 : Zw) : Option Zw :=
  (M.XJ a0.Zd).bind fun r1 => (loopM (M.QL r1) (r1, 0)).bind fun y5 => some (⟨y5⟩ : Zw)
noncomputable def M.Y6 (a0 : List Int) : Option (List Int) :=
  gd [decide (0 = 0) || decide (0 < a0.length), decide ((0 + a0.length) * 8 ≤ 140737488355328)] (some a0)
noncomputable def M.V8 (a1 : List Int) (r1 : Qs × Int) (p2 : Int) : Option (Int ⊕ Unit) :=
  bif decide (p2 < (a1.length : Int)) then (gd [decide (0 ≤ p2), decide (p2 < (a1.length : Int))] (gd [guardB ((!((decide ((a1.getD p2.toNat default) < 0)) || (decide ((a1.getD p2.toNat default) ≥ (r1.1.QA.length : Int))))) && (decide (p2 > 0))) (decide (0 ≤ (wr .i64 (p2 - 1)))), guardB ((!((decide ((a1.getD p2.toNat default) < 0)) || (decide ((a1.getD p2.toNat default) ≥ (r1.1.QA.length : Int))))) && (decide (p2 > 0))) (decide ((wr .i64 (p2 - 1)) < (a1.length : Int)))] (bif ((decide ((a1.getD p2.toNat default) < 0)) || (decide ((a1.getD p2.toNat default) ≥ (r1.1.QA.length : Int)))) || ((decide (p2 > 0)) && (decide ((a1.getD p2.toNat default) ≤ (a1.getD (wr .i64 (p2 - 1)).toNat default)))) then none else (some (.inl (wr .i64 (p2 + 1))))))) else (some (.inr ()))
noncomputable def M.Wx (a0 : Zw) (a1 : List Int) : Option (X3 × Int) :=
  (M.WJ a0).bind fun r1 => bif r1.2 != 0 then none else (bif decide ((a1.length : Int) > 2) then none else ((loopM (M.V8 a1 r1) 0).bind fun y4 => (M.Ji a0).bind fun r5 => (M.Y6 a1).bind fun r6 => some ((⟨r5, r1.1, r6⟩ : X3), 0)))
noncomputable def M.WK  : Option Bool :=
  (M.VW).bind fun r1 => (M.Wx r1 ([] : List Int)).bind fun r2 => (M.VW).bind fun r3 => (M.Wx r3 ([0] : List Int)).bind fun r4 => (gc ((((r2.2 == 0) && (r4.2 == 0)) && ((r2.1.XW.Z1.length : Int) == 2)) && ((r2.1.XW.QA.length : Int) == 1)) (M.Vl r2.1 0 0)).bind fun r5 => (gc (((((r2.2 == 0) && (r4.2 == 0)) && ((r2.1.XW.Z1.length : Int) == 2)) && ((r2.1.XW.QA.length : Int) == 1)) && r5) (M.Vl r4.1 0 0)).bind fun r6 => (gc ((((((r2.2 == 0) && (r4.2 == 0)) && ((r2.1.XW.Z1.length : Int) == 2)) && ((r2.1.XW.QA.length : Int) == 1)) && r5) && (!r6)) (M.Vl r4.1 1 1)).bind fun r7 => some (((((((r2.2 == 0) && (r4.2 == 0)) && ((r2.1.XW.Z1.length : Int) == 2)) && ((r2.1.XW.QA.length : Int) == 1)) && r5) && (!r6)) && r7)
noncomputable def M.Jj (a0 : Zw) (r1 : X3 × Bool) (p2 : Int) (p4 : Int) (r6 : (List X8)) (p7 : Int) : Option (Int ⊕ (Unit ⊕ Bool)) :=
  bif decide (p7 < (r6.length : Int)) then (gd [decide (0 ≤ p7), decide (p7 < (r6.length : Int)), guardB (!(decide (((r6.getD p7.toNat default).Z5) < 0))) (decide (0 ≤ p7)), guardB (!(decide (((r6.getD p7.toNat default).Z5) < 0))) (decide (p7 < (r6.length : Int))), guardB (!((decide (((r6.getD p7.toNat default).Z5) < 0)) || (decide (((r6.getD p7.toNat default).Z5) ≥ (a0.Zd.length : Int))))) (decide (0 ≤ p7)), guardB (!((decide (((r6.getD p7.toNat default).Z5) < 0)) || (decide (((r6.getD p7.toNat default).Z5) ≥ (a0.Zd.length : Int))))) (decide (p7 < (r6.length : Int))), guardB (!(((decide (((r6.getD p7.toNat default).Z5) < 0)) || (decide (((r6.getD p7.toNat default).Z5) ≥ (a0.Zd.length : Int)))) || (((r6.getD p7.toNat default).Z5) == p2))) (decide (0 ≤ p7)), guardB (!(((decide (((r6.getD p7.toNat default).Z5) < 0)) || (decide (((r6.getD p7.toNat default).Z5) ≥ (a0.Zd.length : Int)))) || (((r6.getD p7.toNat default).Z5) == p2))) (decide (p7 < (r6.length : Int))), guardB (!((((decide (((r6.getD p7.toNat default).Z5) < 0)) || (decide (((r6.getD p7.toNat default).Z5) ≥ (a0.Zd.length : Int)))) || (((r6.getD p7.toNat default).Z5) == p2)) || (decide (((r6.getD p7.toNat default).XY) < 0)))) (decide (0 ≤ p7)), guardB (!((((decide (((r6.getD p7.toNat default).Z5) < 0)) || (decide (((r6.getD p7.toNat default).Z5) ≥ (a0.Zd.length : Int)))) || (((r6.getD p7.toNat default).Z5) == p2)) || (decide (((r6.getD p7.toNat default).XY) < 0)))) (decide (p7 < (r6.length : Int))), guardB (!((((decide (((r6.getD p7.toNat default).Z5) < 0)) || (decide (((r6.getD p7.toNat default).Z5) ≥ (a0.Zd.length : Int)))) || (((r6.getD p7.toNat default).Z5) == p2)) || (decide (((r6.getD p7.toNat default).XY) < 0)))) (decide (0 ≤ p7)), guardB (!((((decide (((r6.getD p7.toNat default).Z5) < 0)) || (decide (((r6.getD p7.toNat default).Z5) ≥ (a0.Zd.length : Int)))) || (((r6.getD p7.toNat default).Z5) == p2)) || (decide (((r6.getD p7.toNat default).XY) < 0)))) (decide (p7 < (r6.length : Int))), guardB (!((((decide (((r6.getD p7.toNat default).Z5) < 0)) || (decide (((r6.getD p7.toNat default).Z5) ≥ (a0.Zd.length : Int)))) || (((r6.getD p7.toNat default).Z5) == p2)) || (decide (((r6.getD p7.toNat default).XY) < 0)))) (decide (0 ≤ ((r6.getD p7.toNat default).Z5))), guardB (!((((decide (((r6.getD p7.toNat default).Z5) < 0)) || (decide (((r6.getD p7.toNat default).Z5) ≥ (a0.Zd.length : Int)))) || (((r6.getD p7.toNat default).Z5) == p2)) || (decide (((r6.getD p7.toNat default).XY) < 0)))) (decide (((r6.getD p7.toNat default).Z5) < (a0.Zd.length : Int)))] (bif ((((decide (((r6.getD p7.toNat default).Z5) < 0)) || (decide (((r6.getD p7.toNat default).Z5) ≥ (a0.Zd.length : Int)))) || (((r6.getD p7.toNat default).Z5) == p2)) || (decide (((r6.getD p7.toNat default).XY) < 0))) || (decide (((r6.getD p7.toNat default).XY) ≥ (((a0.Zd.getD ((r6.getD p7.toNat default).Z5).toNat default).Zc).length : Int))) then (some (.inr (.inr false))) else ((M.W9 r1.1 ((r6.getD p7.toNat default).Z5) ((r6.getD p7.toNat default).XY) ((((a0.Zd.getD p2.toNat default).Zc).getD p4.toNat default).Zs)).bind fun r9 => gd [decide (0 ≤ p7), decide (p7 < (r6.length : Int)), decide (0 ≤ p7), decide (p7 < (r6.length : Int)), decide (0 ≤ p2), decide (p2 < (a0.Zd.length : Int)), decide (0 ≤ p4), decide (p4 < (((a0.Zd.getD p2.toNat default).Zc).length : Int))] ((M.W9 r1.1 p2 p4 ((((a0.Zd.getD ((r6.getD p7.toNat default).Z5).toNat default).Zc).getD ((r6.getD p7.toNat default).XY).toNat default).Zs)).bind fun r10 => gd [decide (0 ≤ p7), decide (p7 < (r6.length : Int)), decide (0 ≤ ((r6.getD p7.toNat default).Z5)), decide (((r6.getD p7.toNat default).Z5) < (a0.Zd.length : Int)), decide (0 ≤ p7), decide (p7 < (r6.length : Int)), decide (0 ≤ ((r6.getD p7.toNat default).XY)), decide (((r6.getD p7.toNat default).XY) < (((a0.Zd.getD ((r6.getD p7.toNat default).Z5).toNat default).Zc).length : Int))] (gd [guardB (!(((!r9.2) || (!((r9.1.Z5 == p2) && ((r9.1.XY == p4) && true)))) || (!r10.2))) (decide (0 ≤ p7)), guardB (!(((!r9.2) || (!((r9.1.Z5 == p2) && ((r9.1.XY == p4) && true)))) || (!r10.2))) (decide (p7 < (r6.length : Int)))] (bif (((!r9.2) || (!((r9.1.Z5 == p2) && ((r9.1.XY == p4) && true)))) || (!r10.2)) || (!((r10.1.Z5 == ((r6.getD p7.toNat default).Z5)) && ((r10.1.XY == ((r6.getD p7.toNat default).XY)) && true))) then (some (.inr (.inr false))) else (some (.inl (wr .i64 (p7 + 1)))))))))) else (some (.inr (.inl ())))
noncomputable def M.Jk (a0 : Zw) (r1 : X3 × Bool) (p2 : Int) (p4 : Int) : Option (Int ⊕ (Unit ⊕ Bool)) :=
  gd [decide (0 ≤ p2), decide (p2 < (a0.Zd.length : Int))] (bif decide (p4 < (((a0.Zd.getD p2.toNat default).Zc).length : Int)) then ((M.Wt r1.1 p2 p4).bind fun r6 => (loopM (M.Jj a0 r1 p2 p4 r6) 0).bind fun y11 => Sum.elim (fun _ => some (.inl (wr .i64 (p4 + 1)))) (fun y13 => some (.inr (.inr y13))) y11) else (some (.inr (.inl ()))))
noncomputable def M.Jl (a0 : Zw) (r1 : X3 × Bool) (p2 : Int) : Option (Int ⊕ (Unit ⊕ Bool)) :=
  bif decide (p2 < (a0.Zd.length : Int)) then ((loopM (M.Jk a0 r1 p2) 0).bind fun y14 => Sum.elim (fun _ => some (.inl (wr .i64 (p2 + 1)))) (fun y16 => some (.inr (.inr y16))) y14) else (some (.inr (.inl ())))
noncomputable def M.Wl (a0 : Zw) (a1 : List Int) : Option Bool :=
  (M.Uo a0 a1).bind fun r1 => bif !r1.2 then (some true) else ((loopM (M.Jl a0 r1) 0).bind fun y17 => Sum.elim (fun _ => (M.WK).bind fun r20 => some r20) (fun y19 => some y19) y17)
end Nv
