/- The mirrors: what each function of the given program computes, in plain terms. -/
import Derived.Test.YtaienbkgekjdnaaGreatNvLibB
import Derived.Test.YtaienbkgekjdnaaGreatNvLibD
import Derived.Test.YtaienbkgekjdnaaGreatNvLibC
set_option maxRecDepth 100000
namespace Nv
open Go
structure Zk where
  XT : ByteArray
  XO : Int
  X2 : Int
  Xj : Int
  UE : Bool
  Yt : Bool
  RT : Int
  Zci : Int
  XV : Bool
  Vp : ByteArray
  Ql : ByteArray
  RU : Int
  deriving Inhabited
def Zd (x : Zk) : List D := [.str x.XT, .int .u32 x.XO, .int .i64 x.X2, .int .i64 x.Xj, .bool x.UE, .bool x.Yt, .int .i64 x.RT, .int .i64 x.Zci, .bool x.XV, .str x.Vp, .str x.Ql, .int .i64 x.RU]
structure Z4 where
  XO : Int
  X2 : Int
  deriving Inhabited
def ZY (x : Z4) : List D := [.int .u32 x.XO, .int .i64 x.X2]
structure Gi where
  UF : Bool
  Z5 : Z4
  ZdR : Int
  ZdS : Int
  deriving Inhabited
def Kh (x : Gi) : List D := [.bool x.UF, .int .u32 x.Z5.XO, .int .i64 x.Z5.X2, .int .i64 x.ZdR, .int .i64 x.ZdS]
structure ZZ where
  XT : ByteArray
  Zas : List Gi
  deriving Inhabited
def Zi (x : ZZ) : List D := [.str x.XT, sL 5 Kh x.Zas]
structure ZaU where
  UF : Bool
  Zcj : ByteArray
  Zck : Int
  Zat : Int
  Zc5 : Int
  Zcl : Int
  Zcm : Int
  deriving Inhabited
def Zbg (x : ZaU) : List D := [.bool x.UF, .str x.Zcj, .int .i64 x.Zck, .int .i64 x.Zat, .int .i64 x.Zc5, .int .i64 x.Zcl, .int .i64 x.Zcm]
structure Xu where
  XT : ByteArray
  Zcn : List ZaU
  deriving Inhabited
def Zx (x : Xu) : List D := [.str x.XT, sL 7 Zbg x.Zcn]
structure KH where
  XO : Int
  Zdf : Int
  deriving Inhabited
structure G9 where
  fLo : Int
  fHi : Int
  deriving Inhabited
structure Zdg where
  UF : Bool
  Zau : Int
  ZdH : KH
  ZdI : KH
  KI : G9
  KJ : G9
  deriving Inhabited
def Zc6 (x : Zdg) : List D := [.bool x.UF, .int .i64 x.Zau, .int .u32 x.ZdH.XO, .int .u32 x.ZdH.Zdf, .int .u32 x.ZdI.XO, .int .u32 x.ZdI.Zdf, .int .i64 x.KI.fLo, .int .i64 x.KI.fHi, .int .i64 x.KJ.fLo, .int .i64 x.KJ.fHi]
structure VI where
  XT : ByteArray
  Zas : List Zdg
  deriving Inhabited
def XG (x : VI) : List D := [.str x.XT, sL 10 Zc6 x.Zas]
structure Yf where
  ZdJ : Int
  Zc7 : Int
  Zco : Int
  Zau : Int
  RW : Int
  Ra : Int
  Zcj : ByteArray
  fLo : Int
  fHi : Int
  deriving Inhabited
def ZB (x : Yf) : List D := [.int .i64 x.ZdJ, .int .u32 x.Zc7, .int .u32 x.Zco, .int .i64 x.Zau, .int .i64 x.RW, .int .i64 x.Ra, .str x.Zcj, .int .u32 x.fLo, .int .u32 x.fHi]
structure Yg where
  Z5 : Z4
  ZdK : Int
  Ws : ByteArray
  Zcp : Bool
  Z6 : Int
  Zck : Int
  deriving Inhabited
def ZF (x : Yg) : List D := [.int .u32 x.Z5.XO, .int .i64 x.Z5.X2, .int .u32 x.ZdK, .str x.Ws, .bool x.Zcp, .int .i64 x.Z6, .int .i64 x.Zck]
structure YR where
  RT : Int
  Z5 : Z4
  deriving Inhabited
def ZT (x : YR) : List D := [.int .i64 x.RT, .int .u32 x.Z5.XO, .int .i64 x.Z5.X2]
structure YN where
  ZdL : Int
  Zc8 : Int
  Zck : Int
  ZdT : ByteArray
  ZdM : Int
  deriving Inhabited
def Zm (x : YN) : List D := [.int .i64 x.ZdL, .int .i64 x.Zc8, .int .i64 x.Zck, .str x.ZdT, .int .i64 x.ZdM]
structure Jw where
  Qc : Bool
  Z6 : Int
  XX : List YR
  Zw : List YN
  deriving Inhabited
structure Y6 where
  Qc : Bool
  Z6 : Int
  Vp : ByteArray
  Ql : ByteArray
  Zw : List YN
  deriving Inhabited
structure Qe where
  XO : Int
  WL : Int
  Vp : ByteArray
  Ql : ByteArray
  deriving Inhabited
def Z0 (x : Qe) : List D := [.int .u32 x.XO, .int .i64 x.WL, .str x.Vp, .str x.Ql]
structure YS where
  Z5 : Z4
  ZdN : Bool
  deriving Inhabited
def ZU (x : YS) : List D := [.int .u32 x.Z5.XO, .int .i64 x.Z5.X2, .bool x.ZdN]
structure YT where
  Z5 : Z4
  fIf : Z4
  Zc9 : Bool
  deriving Inhabited
def ZV (x : YT) : List D := [.int .u32 x.Z5.XO, .int .i64 x.Z5.X2, .int .u32 x.fIf.XO, .int .i64 x.fIf.X2, .bool x.Zc9]
structure Jc where
  Qc : Bool
  Xe : Int
  Xf : Int
  Xb : List Qe
  Xh : List Z4
  Z2 : List YS
  Z3 : List YT
  Zw : List YN
  deriving Inhabited
structure Zg where
  XT : ByteArray
  WL : Int
  Zc : List Zk
  JQ : List ZZ
  Jp : List Xu
  Qw : List VI
  Jd : List Yf
  Xl : List Yg
  Yt : Jw
  XV : Y6
  Xc : Jc
  deriving Inhabited
def Zv (x : Zg) : List D := [.str x.XT, .int .i64 x.WL, sL 12 Zd x.Zc, sL 2 Zi x.JQ, sL 2 Zx x.Jp, sL 2 XG x.Qw, sL 9 ZB x.Jd, sL 7 ZF x.Xl, .bool x.Yt.Qc, .int .i64 x.Yt.Z6, sL 3 ZT x.Yt.XX, sL 5 Zm x.Yt.Zw, .bool x.XV.Qc, .int .i64 x.XV.Z6, .str x.XV.Vp, .str x.XV.Ql, sL 5 Zm x.XV.Zw, .bool x.Xc.Qc, .int .i64 x.Xc.Xe, .int .i64 x.Xc.Xf, sL 4 Z0 x.Xc.Xb, sL 2 ZY x.Xc.Xh, sL 3 ZU x.Xc.Z2, sL 5 ZV x.Xc.Z3, sL 5 Zm x.Xc.Zw]
structure Z7 where
  Ze : List Zg
  deriving Inhabited
def Xy (x : Z7) : List D := [sL 25 Zv x.Ze]
structure Je where
  WM : Int
  Ws : Int
  deriving Inhabited
def Xz (x : Je) : List D := [.int .i64 x.WM, .int .i64 x.Ws]
structure Zp where
  Z5 : Z4
  Xj : Int
  XA : List Je
  deriving Inhabited
def ZM (x : Zp) : List D := [.int .u32 x.Z5.XO, .int .i64 x.Z5.X2, .int .i64 x.Xj, sL 2 Xz x.XA]
structure Q4 where
  YI : List Zp
  QC : List Int
  deriving Inhabited
def Gj (x : Q4) : List D := [sL 4 ZM x.YI, sL 1 (ci .i64) x.QC]
structure Jq where
  ZdU : Z7
  Qx : Q4
  UE : List Int
  deriving Inhabited
def Js (x : Jq) : List D := [sL 25 Zv x.ZdU.Ze, sL 4 ZM x.Qx.YI, sL 1 (ci .i64) x.Qx.QC, sL 1 (ci .i64) x.UE]
structure ZC where
  WN : Z4
  Zcq : Int
  deriving Inhabited
def Zy (x : ZC) : List D := [.int .u32 x.WN.XO, .int .i64 x.WN.X2, .int .i64 x.Zcq]
def topoKeyEq (a b : ZC) : Bool := (((a.WN.XO == b.WN.XO) && ((a.WN.X2 == b.WN.X2) && true)) && ((a.Zcq == b.Zcq) && true))
def hdDom (x : Zp) : List D := [.int .u32 x.Z5.XO, .int .i64 x.Z5.X2, .int .i64 x.Xj]
noncomputable def M.Xd (a0 : List Int) : Option (List Int) :=
  gd [decide (0 = 0) || decide (0 < a0.length), decide ((0 + a0.length) * 8 ≤ 140737488355328)] (some a0)
noncomputable def M.XH (a0 : Int) (p1 : (List (List Int)) × Int × Int) (p3 : (List (List Int)) × Int) (p6 : (List (List Int)) × Int) : Option (((List (List Int)) × Int) ⊕ (List (List Int))) :=
  bif decide (p6.2 < a0) then ((M.Xd (((p1.1.drop p1.2.1.toNat).take (((p1.1.length : Int).toNat) - p1.2.1.toNat)).getD p3.2.toNat default)).bind fun r8 => gd [decide ((r8.length + 1) * 8 ≤ 140737488355328)] (gd [decide ((p6.1.length + 1) * 24 ≤ 140737488355328)] (some (.inl (p6.1 ++ [r8 ++ [p6.2]], wr .i64 (p6.2 + 1)))))) else (some (.inr p6.1))
noncomputable def M.Xv (a0 : Int) (p1 : (List (List Int)) × Int × Int) (p3 : (List (List Int)) × Int) (p5 : Int) : Option (((List (List Int)) × Int) ⊕ (List (List Int))) :=
  (loopM (M.XH a0 p1 p3) (p3.1, p5)).bind fun y9 => some (.inl (y9, wr .i64 (p3.2 + 1)))
noncomputable def M.XS (a0 : Int) (p1 : (List (List Int)) × Int × Int) (p3 : (List (List Int)) × Int) : Option (((List (List Int)) × Int) ⊕ (List (List Int))) :=
  bif decide (p3.2 < ((((p1.1.length : Int).toNat) - p1.2.1.toNat : Nat) : Int)) then (gd [decide (0 ≤ p3.2), decide (p3.2 < (((p1.1.drop p1.2.1.toNat).take (((p1.1.length : Int).toNat) - p1.2.1.toNat)).length : Int))] (bif decide (((((p1.1.drop p1.2.1.toNat).take (((p1.1.length : Int).toNat) - p1.2.1.toNat)).getD p3.2.toNat default).length : Int) > 0) then (gd [decide (0 ≤ (wr .i64 (((((p1.1.drop p1.2.1.toNat).take (((p1.1.length : Int).toNat) - p1.2.1.toNat)).getD p3.2.toNat default).length : Int) - 1))), decide ((wr .i64 (((((p1.1.drop p1.2.1.toNat).take (((p1.1.length : Int).toNat) - p1.2.1.toNat)).getD p3.2.toNat default).length : Int) - 1)) < ((((p1.1.drop p1.2.1.toNat).take (((p1.1.length : Int).toNat) - p1.2.1.toNat)).getD p3.2.toNat default).length : Int))] (M.Xv a0 p1 p3 (wr .i64 (((((p1.1.drop p1.2.1.toNat).take (((p1.1.length : Int).toNat) - p1.2.1.toNat)).getD p3.2.toNat default).getD (wr .i64 (((((p1.1.drop p1.2.1.toNat).take (((p1.1.length : Int).toNat) - p1.2.1.toNat)).getD p3.2.toNat default).length : Int) - 1)).toNat default) + 1)))) else (M.Xv a0 p1 p3 0))) else (some (.inr p3.1))
noncomputable def M.YJ (a0 : Int) (a1 : Int) (p1 : (List (List Int)) × Int × Int) : Option (((List (List Int)) × Int × Int) ⊕ (List (List Int))) :=
  bif decide (p1.2.2 < a1) then (gd [decide (0 ≤ (p1.1.length : Int)), decide ((p1.1.length : Int) ≤ (p1.1.length : Int)), decide (0 ≤ p1.2.1), decide (p1.2.1 ≤ ((p1.1.length : Int).toNat : Int))] ((loopM (M.XS a0 p1) (p1.1, 0)).bind fun y10 => some (.inl (y10, (p1.1.length : Int), wr .i64 (p1.2.2 + 1))))) else (some (.inr p1.1))
noncomputable def M.Ye (a0 : Int) (a1 : Int) : Option ((List (List Int)) × Int) :=
  bif (((decide (a0 < 0)) || (decide (a0 > 12))) || (decide (a1 < 0))) || (decide (a1 > 2)) then (some (([] : List (List Int)), 1)) else ((loopM (M.YJ a0 a1) (([([] : List Int)] : List (List Int)), 0, 0)).bind fun y11 => some (y11, 0))
noncomputable def M.Yo (a0 : Int) (a1 : Int) (p1 : (List (List Int)) × Int) : Option (((List (List Int)) × Int) ⊕ (List (List Int))) :=
  bif (decide (a1 ≥ 1)) && (decide (p1.2 < a0)) then (gd [decide ((p1.1.length + 1) * 24 ≤ 140737488355328)] (some (.inl (p1.1 ++ [([p1.2] : List Int)], wr .i64 (p1.2 + 1))))) else (some (.inr p1.1))
noncomputable def M.Yp (a0 : Int) (p4 : (List (List Int)) × Int) (p6 : (List (List Int)) × Int) : Option (((List (List Int)) × Int) ⊕ (List (List Int))) :=
  bif decide (p6.2 < a0) then (gd [decide ((p6.1.length + 1) * 24 ≤ 140737488355328)] (some (.inl (p6.1 ++ [([p4.2, p6.2] : List Int)], wr .i64 (p6.2 + 1))))) else (some (.inr p6.1))
noncomputable def M.Yq (a0 : Int) (a1 : Int) (p4 : (List (List Int)) × Int) : Option (((List (List Int)) × Int) ⊕ (List (List Int))) :=
  bif (decide (a1 ≥ 2)) && (decide (p4.2 < a0)) then ((loopM (M.Yp a0 p4) (p4.1, wr .i64 (p4.2 + 1))).bind fun y8 => some (.inl (y8, wr .i64 (p4.2 + 1)))) else (some (.inr p4.1))
noncomputable def M.X3 (a0 : Int) (a1 : Int) : Option ((List (List Int)) × Int) :=
  bif (((decide (a0 < 0)) || (decide (a0 > 12))) || (decide (a1 < 0))) || (decide (a1 > 2)) then (some (([] : List (List Int)), 1)) else ((loopM (M.Yo a0 a1) (([([] : List Int)] : List (List Int)), 0)).bind fun y3 => (loopM (M.Yq a0 a1) (y3, 0)).bind fun y9 => some (y9, 0))
noncomputable def M.JH (a0 : List Int) (a1 : List Int) (p1 : Int) : Option (Int ⊕ (Unit ⊕ Bool)) :=
  bif decide (p1 < (a0.length : Int)) then (gd [decide (0 ≤ p1), decide (p1 < (a0.length : Int)), decide (0 ≤ p1), decide (p1 < (a1.length : Int))] (bif (a0.getD p1.toNat default) != (a1.getD p1.toNat default) then (some (.inr (.inr false))) else (some (.inl (wr .i64 (p1 + 1)))))) else (some (.inr (.inl ())))
noncomputable def M.VJ (a0 : List Int) (a1 : List Int) : Option Bool :=
  bif (a0.length : Int) != (a1.length : Int) then (some false) else ((loopM (M.JH a0 a1) 0).bind fun y3 => Sum.elim (fun _ => some true) (fun y5 => some y5) y3)
noncomputable def M.Qg  : Option Z7 :=
  some (⟨([(⟨(⟨#[97]⟩ : ByteArray), 0, ([(⟨(⟨#[101, 48]⟩ : ByteArray), 167772161, 24, 0, false, false, 0, 0, false, (⟨#[]⟩ : ByteArray), (⟨#[]⟩ : ByteArray), 0⟩ : Zk)] : List Zk), ([] : List ZZ), ([] : List Xu), ([] : List VI), ([] : List Yf), ([] : List Yg), (⟨false, 0, ([] : List YR), ([] : List YN)⟩ : Jw), (⟨false, 0, (⟨#[]⟩ : ByteArray), (⟨#[]⟩ : ByteArray), ([] : List YN)⟩ : Y6), (⟨false, 0, 0, ([] : List Qe), ([] : List Z4), ([] : List YS), ([] : List YT), ([] : List YN)⟩ : Jc)⟩ : Zg), (⟨(⟨#[98]⟩ : ByteArray), 0, ([(⟨(⟨#[101, 48]⟩ : ByteArray), 167772162, 24, 0, false, false, 0, 0, false, (⟨#[]⟩ : ByteArray), (⟨#[]⟩ : ByteArray), 0⟩ : Zk), (⟨(⟨#[101, 49]⟩ : ByteArray), 167772418, 24, 0, false, false, 0, 0, false, (⟨#[]⟩ : ByteArray), (⟨#[]⟩ : ByteArray), 0⟩ : Zk)] : List Zk), ([] : List ZZ), ([] : List Xu), ([] : List VI), ([] : List Yf), ([] : List Yg), (⟨false, 0, ([] : List YR), ([] : List YN)⟩ : Jw), (⟨false, 0, (⟨#[]⟩ : ByteArray), (⟨#[]⟩ : ByteArray), ([] : List YN)⟩ : Y6), (⟨false, 0, 0, ([] : List Qe), ([] : List Z4), ([] : List YS), ([] : List YT), ([] : List YN)⟩ : Jc)⟩ : Zg)] : List Zg)⟩ : Z7)
noncomputable def M.YZ (a0 : Int) : Option Bool :=
  some (((decide (65 ≤ a0)) && (decide (a0 ≤ 90))) || ((decide (97 ≤ a0)) && (decide (a0 ≤ 122))))
noncomputable def M.QR (a0 : Int) : Option Bool :=
  some ((decide (48 ≤ a0)) && (decide (a0 ≤ 57)))
noncomputable def M.Qm (a0 : ByteArray) (p2 : Int) : Option (Int ⊕ Unit) :=
  bif decide (p2 < (a0.size : Int)) then (gd [decide (0 ≤ p2), decide (p2 < (a0.size : Int))] ((M.YZ (byteAt a0 p2)).bind fun r4 => (gc (!r4) (M.QR (byteAt a0 p2))).bind fun r5 => bif (((((!r4) && (!r5)) && ((byteAt a0 p2) != 45)) && ((byteAt a0 p2) != 95)) && ((byteAt a0 p2) != 47)) && ((byteAt a0 p2) != 46) then none else (some (.inl (wr .i64 (p2 + 1)))))) else (some (.inr ()))
noncomputable def M.QD (a0 : ByteArray) : Option Bool :=
  (gc (!((decide ((a0.size : Int) < 1)) || (decide ((a0.size : Int) > 15)))) (M.YZ (byteAt a0 0))).bind fun r1 => gd [guardB (!((decide ((a0.size : Int) < 1)) || (decide ((a0.size : Int) > 15)))) (decide (0 ≤ 0)), guardB (!((decide ((a0.size : Int) < 1)) || (decide ((a0.size : Int) > 15)))) (decide (0 < (a0.size : Int)))] (bif ((decide ((a0.size : Int) < 1)) || (decide ((a0.size : Int) > 15))) || (!r1) then none else ((loopM (M.Qm a0) 1).bind fun y6 => some true))
noncomputable def M.XY (a0 : Int) (a1 : Int) (a2 : Int) : Option Bool :=
  some ((decide (a1 ≤ a0)) && (decide (a0 ≤ a2)))
noncomputable def M.X6 (a0 : Zk) (b0 : ByteArray) : Option Bool :=
  some (strEq a0.XT b0)
noncomputable def M.Zr (a0 : List Zk) (a1c0 : ByteArray) (p1 : Int) : Option (Int ⊕ (Unit ⊕ Int)) :=
  bif decide (p1 < (a0.length : Int)) then ((M.X6 (a0.getD p1.toNat default) a1c0).bind fun r3 => gd [decide (0 ≤ p1), decide (p1 < (a0.length : Int))] (bif r3 then (some (.inr (.inr p1))) else (some (.inl (wr .i64 (p1 + 1)))))) else (some (.inr (.inl ())))
noncomputable def M.Zn (a0 : List Zk) (a1c0 : ByteArray) : Option Int :=
  (loopM (M.Zr a0 a1c0) 0).bind fun y4 => Sum.elim (fun _ => some (-1)) (fun y6 => some y6) y4
noncomputable def M.Yz (a0 : Zg) (a1 : ByteArray) : Option Int :=
  (M.Zn a0.Zc a1).bind fun r1 => some r1
noncomputable def M.XK (a0 : Zk) : Option Bool :=
  (M.XY a0.X2 0 32).bind fun r1 => (gc (!(!r1)) (M.XY a0.Xj 0 4094)).bind fun r2 => (gc (!((!r1) || (!r2))) (M.XY a0.RU 0 2)).bind fun r3 => bif ((!r1) || (!r2)) || (!r3) then none else (bif (a0.X2 == 0) && (((((((a0.XO != 0) || (a0.Xj != 0)) || (a0.RU != 0)) || a0.Yt) || a0.XV) || (!strEq a0.Vp (⟨#[]⟩ : ByteArray))) || (!strEq a0.Ql (⟨#[]⟩ : ByteArray))) then none else (bif (a0.X2 != 0) && (a0.XO == 0) then none else (bif a0.Yt then none else (some ((a0.RT == 0) && (a0.Zci == 0))))))
noncomputable def M.Qh (a0 : Int) : Option Int :=
  some (if (if 32 < a0 then 32 else a0) > 0 then (if 32 < a0 then 32 else a0) else 0)
noncomputable def M.QE (a0 : Int) : Option Int :=
  (M.Qh a0).bind fun r1 => gd [decide (0 ≤ (wr .i64 (32 - r1)))] (some (wr .u32 (4294967295 * 2 ^ min (wr .i64 (32 - r1)).toNat 32)))
noncomputable def M.Yh (a0 : Int) (a1 : Int) : Option Z4 :=
  (M.QE a1).bind fun r1 => (M.Qh a1).bind fun r2 => some (⟨bitD .and .u32 a0 r1, r2⟩ : Z4)
noncomputable def M.YV (a0 : Z4) (a1 : Int) : Option Bool :=
  (M.QE a0.X2).bind fun r1 => some ((bitD .and .u32 a1 r1) == a0.XO)
noncomputable def M.Y0 (a0 : Z4) (a1 : Z4) : Option Bool :=
  (gc (decide (a0.X2 ≤ a1.X2)) (M.YV a0 a1.XO)).bind fun r1 => some ((decide (a0.X2 ≤ a1.X2)) && r1)
noncomputable def M.YW (a0 : Z4) (a1 : Z4) : Option Bool :=
  (M.Y0 a0 a1).bind fun r1 => (gc (!r1) (M.Y0 a1 a0)).bind fun r2 => some (r1 || r2)
noncomputable def M.Xs (a0 : Zg) (p1 : Int) (p6 : Int) : Option (Int ⊕ Unit) :=
  bif decide (p6 < ((p1.toNat - 0 : Nat) : Int)) then (gd [decide (0 ≤ p6), decide (p6 < (((a0.Zc.drop 0).take (p1.toNat - 0)).length : Int))] ((gc ((((a0.Zc.getD p1.toNat default).X2) != 0) && (((((a0.Zc.drop 0).take (p1.toNat - 0)).getD p6.toNat default).X2) != 0)) (M.Yh ((a0.Zc.getD p1.toNat default).XO) ((a0.Zc.getD p1.toNat default).X2))).bind fun r8 => (gc ((((a0.Zc.getD p1.toNat default).X2) != 0) && (((((a0.Zc.drop 0).take (p1.toNat - 0)).getD p6.toNat default).X2) != 0)) (M.Yh ((((a0.Zc.drop 0).take (p1.toNat - 0)).getD p6.toNat default).XO) ((((a0.Zc.drop 0).take (p1.toNat - 0)).getD p6.toNat default).X2))).bind fun r9 => (gc ((((a0.Zc.getD p1.toNat default).X2) != 0) && (((((a0.Zc.drop 0).take (p1.toNat - 0)).getD p6.toNat default).X2) != 0)) (M.YW r8 r9)).bind fun r10 => bif ((((a0.Zc.getD p1.toNat default).X2) != 0) && (((((a0.Zc.drop 0).take (p1.toNat - 0)).getD p6.toNat default).X2) != 0)) && r10 then none else (some (.inl (wr .i64 (p6 + 1)))))) else (some (.inr ()))
noncomputable def M.Xt (a0 : Zg) (p1 : Int) : Option (Int ⊕ Unit) :=
  bif decide (p1 < (a0.Zc.length : Int)) then (gd [decide (0 ≤ p1), decide (p1 < (a0.Zc.length : Int))] ((M.QD ((a0.Zc.getD p1.toNat default).XT)).bind fun r3 => bif !r3 then none else ((M.Yz a0 ((a0.Zc.getD p1.toNat default).XT)).bind fun r4 => bif decide (r4 < p1) then none else ((M.XK (a0.Zc.getD p1.toNat default)).bind fun r5 => bif !r5 then none else (gd [decide (0 ≤ p1), decide (p1 ≤ (a0.Zc.length : Int))] ((loopM (M.Xs a0 p1) 0).bind fun y11 => some (.inl (wr .i64 (p1 + 1))))))))) else (some (.inr ()))
noncomputable def M.XC (a0 : Zg) : Option Int :=
  bif decide ((a0.Zc.length : Int) > 8) then none else ((loopM (M.Xt a0) 0).bind fun y12 => some 0)
noncomputable def M.Xq (a0 : Zg) (p1 : Int) : Option (Int ⊕ Unit) :=
  bif decide (p1 < (a0.JQ.length : Int)) then none else (some (.inr ()))
noncomputable def M.Xr (a0 : Zg) : Option Int :=
  bif decide ((a0.JQ.length : Int) > 8) then none else ((loopM (M.Xq a0) 0).bind fun y3 => some 0)
noncomputable def M.XE (a0 : Zg) (p1 : Int) : Option (Int ⊕ Unit) :=
  bif decide (p1 < (a0.Jp.length : Int)) then none else (some (.inr ()))
noncomputable def M.XL (a0 : Zg) : Option Int :=
  bif decide ((a0.Jp.length : Int) > 8) then none else ((loopM (M.XE a0) 0).bind fun y3 => some 0)
noncomputable def M.X9 (a0 : Zg) (p1 : Int) : Option (Int ⊕ Unit) :=
  bif decide (p1 < (a0.Qw.length : Int)) then none else (some (.inr ()))
noncomputable def M.YA (a0 : Zg) : Option Int :=
  bif decide ((a0.Qw.length : Int) > 8) then none else ((loopM (M.X9 a0) 0).bind fun y3 => some 0)
noncomputable def M.Yr (a0 : Zg) (p1 : Int) : Option (Int ⊕ Unit) :=
  bif decide (p1 < (a0.Jd.length : Int)) then none else (some (.inr ()))
noncomputable def M.YO (a0 : Zg) : Option Int :=
  bif decide ((a0.Jd.length : Int) > 8) then none else ((loopM (M.Yr a0) 0).bind fun y3 => some 0)
noncomputable def M.QF (_a0 : Zg) (_a1 : ByteArray) : Option Int :=
  none
noncomputable def M.XQ (a0 : Zg) (p1 : Int) : Option (Int ⊕ Unit) :=
  bif decide (p1 < (a0.Zc.length : Int)) then (gd [decide (0 ≤ p1), decide (p1 < (a0.Zc.length : Int))] ((gc (!strEq ((a0.Zc.getD p1.toNat default).Vp) (⟨#[]⟩ : ByteArray)) (M.QF a0 ((a0.Zc.getD p1.toNat default).Vp))).bind fun r3 => (gc ((!((!strEq ((a0.Zc.getD p1.toNat default).Vp) (⟨#[]⟩ : ByteArray)) && (decide (r3 < 0)))) && (!strEq ((a0.Zc.getD p1.toNat default).Ql) (⟨#[]⟩ : ByteArray))) (M.QF a0 ((a0.Zc.getD p1.toNat default).Ql))).bind fun r4 => bif ((!strEq ((a0.Zc.getD p1.toNat default).Vp) (⟨#[]⟩ : ByteArray)) && (decide (r3 < 0))) || ((!strEq ((a0.Zc.getD p1.toNat default).Ql) (⟨#[]⟩ : ByteArray)) && (decide (r4 < 0))) then none else (some (.inl (wr .i64 (p1 + 1)))))) else (some (.inr ()))
noncomputable def M.XZ (a0 : Zg) : Option Int :=
  (loopM (M.XQ a0) 0).bind fun y5 => some 0
noncomputable def M.XR (a0 : Zg) (p1 : Int) : Option (Int ⊕ Unit) :=
  bif decide (p1 < (a0.Xl.length : Int)) then none else (some (.inr ()))
noncomputable def M.X0 (a0 : Zg) : Option Int :=
  bif decide ((a0.Xl.length : Int) > 16) then none else ((loopM (M.XR a0) 0).bind fun y3 => some 0)
noncomputable def M.XM (a0 : Zg) : Option Int :=
  bif !a0.Yt.Qc then (bif ((a0.Yt.Z6 != 0) || (decide ((a0.Yt.XX.length : Int) > 0))) || (decide ((a0.Yt.Zw.length : Int) > 0)) then none else (some 0)) else none
noncomputable def M.Xg (a0 : Zg) : Option Int :=
  bif !a0.XV.Qc then (bif (((a0.XV.Z6 != 0) || (!strEq a0.XV.Vp (⟨#[]⟩ : ByteArray))) || (!strEq a0.XV.Ql (⟨#[]⟩ : ByteArray))) || (decide ((a0.XV.Zw.length : Int) > 0)) then none else (some 0)) else none
noncomputable def M.XD (a0 : Zg) : Option Int :=
  bif !a0.Xc.Qc then (bif ((((((a0.Xc.Xe != 0) || (a0.Xc.Xf != 0)) || (decide ((a0.Xc.Xb.length : Int) > 0))) || (decide ((a0.Xc.Xh.length : Int) > 0))) || (decide ((a0.Xc.Z2.length : Int) > 0))) || (decide ((a0.Xc.Z3.length : Int) > 0))) || (decide ((a0.Xc.Zw.length : Int) > 0)) then none else (some 0)) else none
noncomputable def M.X7 (a0 : Zg) : Option Int :=
  (M.QD a0.XT).bind fun r1 => bif !r1 then none else ((M.XY a0.WL 0 65535).bind fun r2 => bif !r2 then none else (gd [decide (0 ≤ 0), decide (0 < (10 : Int))] ((M.XC a0).bind fun r3 => bif r3 != 0 then none else (gd [decide (0 ≤ 1), decide (1 < (10 : Int))] ((M.Xr a0).bind fun r4 => bif r4 != 0 then none else (gd [decide (0 ≤ 2), decide (2 < (10 : Int))] ((M.XL a0).bind fun r5 => bif r5 != 0 then none else (gd [decide (0 ≤ 3), decide (3 < (10 : Int))] ((M.YA a0).bind fun r6 => bif r6 != 0 then none else (gd [decide (0 ≤ 4), decide (4 < (10 : Int))] ((M.YO a0).bind fun r7 => bif r7 != 0 then none else (gd [decide (0 ≤ 5), decide (5 < (10 : Int))] ((M.XZ a0).bind fun r8 => bif r8 != 0 then none else (gd [decide (0 ≤ 6), decide (6 < (10 : Int))] ((M.X0 a0).bind fun r9 => bif r9 != 0 then none else (gd [decide (0 ≤ 7), decide (7 < (10 : Int))] ((M.XM a0).bind fun r10 => bif r10 != 0 then none else (gd [decide (0 ≤ 8), decide (8 < (10 : Int))] ((M.Xg a0).bind fun r11 => bif r11 != 0 then none else (gd [decide (0 ≤ 9), decide (9 < (10 : Int))] ((M.XD a0).bind fun r12 => bif r12 != 0 then none else (some 0))))))))))))))))))))))
noncomputable def M.YB (a0 : Zk) (b0 : Int) : Option Bool :=
  some ((a0.X2 != 0) && (a0.XO == b0))
noncomputable def M.Zu (a0 : List Zk) (a1c0 : Int) (p1 : Int) : Option (Int ⊕ (Unit ⊕ Int)) :=
  bif decide (p1 < (a0.length : Int)) then ((M.YB (a0.getD p1.toNat default) a1c0).bind fun r3 => gd [decide (0 ≤ p1), decide (p1 < (a0.length : Int))] (bif r3 then (some (.inr (.inr p1))) else (some (.inl (wr .i64 (p1 + 1)))))) else (some (.inr (.inl ())))
noncomputable def M.Zq (a0 : List Zk) (a1c0 : Int) : Option Int :=
  (loopM (M.Zu a0 a1c0) 0).bind fun y4 => Sum.elim (fun _ => some (-1)) (fun y6 => some y6) y4
noncomputable def M.YX (a0 : Zg) (a1 : Int) : Option Int :=
  (M.Zq a0.Zc a1).bind fun r1 => some r1
noncomputable def M.XN (a0 : Zk) (b0 : Zg) : Option Bool :=
  (gc (a0.X2 != 0) (M.YX b0 a0.XO)).bind fun r1 => some ((a0.X2 != 0) && (decide (r1 ≥ 0)))
noncomputable def M.Zo (a0 : List Zk) (a1c0 : Zg) (p1 : Int) : Option (Int ⊕ (Unit ⊕ Int)) :=
  bif decide (p1 < (a0.length : Int)) then ((M.XN (a0.getD p1.toNat default) a1c0).bind fun r3 => gd [decide (0 ≤ p1), decide (p1 < (a0.length : Int))] (bif r3 then (some (.inr (.inr p1))) else (some (.inl (wr .i64 (p1 + 1)))))) else (some (.inr (.inl ())))
noncomputable def M.Zl (a0 : List Zk) (a1c0 : Zg) : Option Int :=
  (loopM (M.Zo a0 a1c0) 0).bind fun y4 => Sum.elim (fun _ => some (-1)) (fun y6 => some y6) y4
noncomputable def M.Zh (a0 : List Zk) (a1c0 : Zg) : Option Bool :=
  (M.Zl a0 a1c0).bind fun r1 => some (decide (r1 ≥ 0))
noncomputable def M.X1 (a0 : Zg) (a1 : Zg) : Option Bool :=
  (M.Zh a1.Zc a0).bind fun r1 => some r1
noncomputable def M.Y1 (a0 : Z7) (p1 : Int) (p4 : Int) : Option (Int ⊕ Unit) :=
  bif decide (p4 < ((p1.toNat - 0 : Nat) : Int)) then (gd [decide (0 ≤ p4), decide (p4 < (((a0.Ze.drop 0).take (p1.toNat - 0)).length : Int))] ((gc (!(strEq ((((a0.Ze.drop 0).take (p1.toNat - 0)).getD p4.toNat default).XT) ((a0.Ze.getD p1.toNat default).XT))) (M.X1 (((a0.Ze.drop 0).take (p1.toNat - 0)).getD p4.toNat default) (a0.Ze.getD p1.toNat default))).bind fun r6 => bif (strEq ((((a0.Ze.drop 0).take (p1.toNat - 0)).getD p4.toNat default).XT) ((a0.Ze.getD p1.toNat default).XT)) || r6 then none else (some (.inl (wr .i64 (p4 + 1)))))) else (some (.inr ()))
noncomputable def M.Y2 (a0 : Z7) (p1 : Int) : Option (Int ⊕ Unit) :=
  bif decide (p1 < (a0.Ze.length : Int)) then (gd [decide (0 ≤ p1), decide (p1 < (a0.Ze.length : Int))] ((M.X7 (a0.Ze.getD p1.toNat default)).bind fun r3 => bif r3 != 0 then none else (gd [decide (0 ≤ p1), decide (p1 ≤ (a0.Ze.length : Int))] ((loopM (M.Y1 a0 p1) 0).bind fun y7 => some (.inl (wr .i64 (p1 + 1))))))) else (some (.inr ()))
noncomputable def M.Qn (a0 : Z7) : Option Int :=
  bif decide ((a0.Ze.length : Int) > 8) then none else ((loopM (M.Y2 a0) 0).bind fun y8 => some 0)
noncomputable def M.Ya (i : Int) (p : (List Zp) × (List (ZC × Int)) × Int) (q : (List Zp) × (List (ZC × Int)) × Int) : Option (((List Zp) × (List (ZC × Int)) × Int) ⊕ ((List Zp) × (List (ZC × Int)))) :=
  gd [decide (0 ≤ q.2.2), decide (q.2.2 < (q.1.length : Int)), decide (((q.1.getD (0 + q.2.2.toNat) default).XA.length + 1) * 16 ≤ 140737488355328)] (some (.inl (q.1.set (0 + q.2.2.toNat) ⟨(q.1.getD (0 + q.2.2.toNat) default).Z5, (q.1.getD (0 + q.2.2.toNat) default).Xj, (q.1.getD (0 + q.2.2.toNat) default).XA ++ [⟨i, p.2.2⟩]⟩, q.2.1, wr .i64 (p.2.2 + 1))))
noncomputable def M.YC (a0 : Z7) (i : Int) (p : (List Zp) × (List (ZC × Int)) × Int) : Option (((List Zp) × (List (ZC × Int)) × Int) ⊕ ((List Zp) × (List (ZC × Int)))) :=
  bif decide (p.2.2 < (((a0.Ze.getD i.toNat default).Zc).length : Int)) then (gd [decide (0 ≤ p.2.2), decide (p.2.2 < (((a0.Ze.getD i.toNat default).Zc).length : Int))] (bif (((a0.Ze.getD i.toNat default).Zc.getD p.2.2.toNat default).X2 == 0) || ((a0.Ze.getD i.toNat default).Zc.getD p.2.2.toNat default).UE then (some (.inl (p.1, p.2.1, wr .i64 (p.2.2 + 1)))) else ((M.Yh ((a0.Ze.getD i.toNat default).Zc.getD p.2.2.toNat default).XO ((a0.Ze.getD i.toNat default).Zc.getD p.2.2.toNat default).X2).bind fun r => bif !(lkM (topoKeyEq ⟨r, ((a0.Ze.getD i.toNat default).Zc.getD p.2.2.toNat default).Xj⟩) p.2.1).2 then (gd [decide ((p.1.length + 1) * 48 ≤ 140737488355328)] (M.Ya i p (p.1 ++ [⟨r, ((a0.Ze.getD i.toNat default).Zc.getD p.2.2.toNat default).Xj, []⟩], p.2.1 ++ [(⟨r, ((a0.Ze.getD i.toNat default).Zc.getD p.2.2.toNat default).Xj⟩, (p.1.length : Int))], (p.1.length : Int)))) else (M.Ya i p (p.1, p.2.1, (lkM (topoKeyEq ⟨r, ((a0.Ze.getD i.toNat default).Zc.getD p.2.2.toNat default).Xj⟩) p.2.1).1))))) else (some (.inr (p.1, p.2.1)))
noncomputable def M.YD (a0 : Z7) (p : (List Zp) × (List (ZC × Int)) × Int) : Option (((List Zp) × (List (ZC × Int)) × Int) ⊕ (List Zp)) :=
  bif decide (p.2.2 < (a0.Ze.length : Int)) then (gd [decide (0 ≤ p.2.2), decide (p.2.2 < (a0.Ze.length : Int))] ((loopM (M.YC a0 p.2.2) (p.1, p.2.1, 0)).bind fun y => some (.inl (y.1, y.2, wr .i64 (p.2.2 + 1))))) else (some (.inr p.1))
noncomputable def M.Qa (a0 : Z7) : Option (List Zp) :=
  (loopM (M.YD a0) ([], [], 0)).bind fun y => some y
noncomputable def M.Xw (a0 : Int) : Option Bool :=
  some (a0 != a0)
noncomputable def M.XB (a0 : Int) (a1 : Int) : Option Int :=
  (M.Xw a0).bind fun r1 => (M.Xw a1).bind fun r2 => bif r1 then (bif r2 then (some 0) else (some (-1))) else (bif r2 then (some 1) else (bif decide (a0 < a1) then (some (-1)) else (bif decide (a0 > a1) then (some 1) else (some 0))))
noncomputable def M.X4 (a0 : Int) : Option Bool :=
  some (a0 != a0)
noncomputable def M.XI (a0 : Int) (a1 : Int) : Option Int :=
  (M.X4 a0).bind fun r1 => (M.X4 a1).bind fun r2 => bif r1 then (bif r2 then (some 0) else (some (-1))) else (bif r2 then (some 1) else (bif decide (a0 < a1) then (some (-1)) else (bif decide (a0 > a1) then (some 1) else (some 0))))
noncomputable def M.YP (a0 : Z4) (a1 : Z4) : Option Int :=
  (M.XB a0.XO a1.XO).bind fun r1 => bif r1 != 0 then (some r1) else ((M.XI a0.X2 a1.X2).bind fun r2 => some r2)
noncomputable def M.XU (a0 : List Int) (p1 : Int) : Option (Int ⊕ (Unit ⊕ Int)) :=
  bif decide (p1 < (a0.length : Int)) then (gd [decide (0 ≤ p1), decide (p1 < (a0.length : Int))] (bif (a0.getD p1.toNat default) != 0 then (some (.inr (.inr (a0.getD p1.toNat default)))) else (some (.inl (wr .i64 (p1 + 1)))))) else (some (.inr (.inl ())))
noncomputable def M.Qi (a0 : List Int) : Option Int :=
  (loopM (M.XU a0) 0).bind fun y3 => Sum.elim (fun _ => some 0) (fun y5 => some y5) y3
noncomputable def M.YE (a0 : Zp) (a1 : Zp) : Option Int :=
  (M.YP a0.Z5 a1.Z5).bind fun r1 => (M.XI a0.Xj a1.Xj).bind fun r2 => (M.Qi ([r1, r2] : List Int)).bind fun r3 => some r3
noncomputable def M.ZQ (a0 : List Zp) : Option (List Zp) :=
  sortU M.YE a0
noncomputable def M.Yv (p5 : (List Int) × Int) (p7 : (List Int)) : Option (((List Int) × Int) ⊕ (List Int)) :=
  some (.inl (p7, wr .i64 (p5.2 + 1)))
noncomputable def M.Qd (r3 : (List Zp)) (p5 : (List Int) × Int) : Option (((List Int) × Int) ⊕ (List Int)) :=
  bif decide (p5.2 < (r3.length : Int)) then (gd [decide (0 ≤ p5.2), decide (p5.2 < (r3.length : Int))] (bif decide ((((r3.getD p5.2.toNat default).XA).length : Int) ≥ 2) then (gd [decide ((p5.1.length + 1) * 8 ≤ 140737488355328)] (M.Yv p5 (p5.1 ++ [p5.2]))) else (M.Yv p5 p5.1))) else (some (.inr p5.1))
noncomputable def M.QS (a0 : Z7) : Option (Q4 × Int) :=
  (M.Qn a0).bind fun r1 => bif r1 != 0 then none else ((M.Qa a0).bind fun r2 => (M.ZQ r2).bind fun r3 => gd [decide (r3.length = r2.length)] ((loopM (M.Qd r3) (([] : List Int), 0)).bind fun y8 => bif decide ((y8.length : Int) > 12) then none else (some ((⟨r3, y8⟩ : Q4), 0))))
noncomputable def M.ZW (a0 : List Zg) : Option (List Zg) :=
  gd [decide (0 = 0) || decide (0 < a0.length), decide ((0 + a0.length) * 448 ≤ 140737488355328)] (some a0)
noncomputable def M.ZH (a0 : List Zk) : Option (List Zk) :=
  gd [decide (0 = 0) || decide (0 < a0.length), decide ((0 + a0.length) * 112 ≤ 140737488355328)] (some a0)
noncomputable def M.ZG (a0 : List ZZ) : Option (List ZZ) :=
  gd [decide (0 = 0) || decide (0 < a0.length), decide ((0 + a0.length) * 40 ≤ 140737488355328)] (some a0)
noncomputable def M.ZN (a0 : List Xu) : Option (List Xu) :=
  gd [decide (0 = 0) || decide (0 < a0.length), decide ((0 + a0.length) * 40 ≤ 140737488355328)] (some a0)
noncomputable def M.Z9 (a0 : List VI) : Option (List VI) :=
  gd [decide (0 = 0) || decide (0 < a0.length), decide ((0 + a0.length) * 40 ≤ 140737488355328)] (some a0)
noncomputable def M.ZD (a0 : List Yf) : Option (List Yf) :=
  gd [decide (0 = 0) || decide (0 < a0.length), decide ((0 + a0.length) * 64 ≤ 140737488355328)] (some a0)
noncomputable def M.ZE (a0 : List Yg) : Option (List Yg) :=
  gd [decide (0 = 0) || decide (0 < a0.length), decide ((0 + a0.length) * 64 ≤ 140737488355328)] (some a0)
noncomputable def M.ZI (a0 : List YR) : Option (List YR) :=
  gd [decide (0 = 0) || decide (0 < a0.length), decide ((0 + a0.length) * 24 ≤ 140737488355328)] (some a0)
noncomputable def M.Zz (a0 : List YN) : Option (List YN) :=
  gd [decide (0 = 0) || decide (0 < a0.length), decide ((0 + a0.length) * 48 ≤ 140737488355328)] (some a0)
noncomputable def M.ZO (a0 : List Qe) : Option (List Qe) :=
  gd [decide (0 = 0) || decide (0 < a0.length), decide ((0 + a0.length) * 48 ≤ 140737488355328)] (some a0)
noncomputable def M.ZX (a0 : List Z4) : Option (List Z4) :=
  gd [decide (0 = 0) || decide (0 < a0.length), decide ((0 + a0.length) * 16 ≤ 140737488355328)] (some a0)
noncomputable def M.ZJ (a0 : List YS) : Option (List YS) :=
  gd [decide (0 = 0) || decide (0 < a0.length), decide ((0 + a0.length) * 24 ≤ 140737488355328)] (some a0)
noncomputable def M.ZK (a0 : List YT) : Option (List YT) :=
  gd [decide (0 = 0) || decide (0 < a0.length), decide ((0 + a0.length) * 40 ≤ 140737488355328)] (some a0)
noncomputable def M.Yb (r2 : (List ZZ)) (p3 : Int) : Option (Int ⊕ Unit) :=
  bif decide (p3 < (r2.length : Int)) then none else (some (.inr ()))
noncomputable def M.Yc (r6 : (List Xu)) (p7 : Int) : Option (Int ⊕ Unit) :=
  bif decide (p7 < (r6.length : Int)) then none else (some (.inr ()))
noncomputable def M.Yd (r10 : (List VI)) (p11 : Int) : Option (Int ⊕ Unit) :=
  bif decide (p11 < (r10.length : Int)) then none else (some (.inr ()))
noncomputable def M.YF (a0 : Zg) : Option Zg :=
  (M.ZH a0.Zc).bind fun r1 => (M.ZG a0.JQ).bind fun r2 => (loopM (M.Yb r2) 0).bind fun y5 => (M.ZN a0.Jp).bind fun r6 => (loopM (M.Yc r6) 0).bind fun y9 => (M.Z9 a0.Qw).bind fun r10 => (loopM (M.Yd r10) 0).bind fun y13 => (M.ZD a0.Jd).bind fun r14 => (M.ZE a0.Xl).bind fun r15 => (M.ZI a0.Yt.XX).bind fun r16 => (M.Zz a0.Yt.Zw).bind fun r17 => (M.Zz a0.XV.Zw).bind fun r18 => (M.ZO a0.Xc.Xb).bind fun r19 => (M.ZX a0.Xc.Xh).bind fun r20 => (M.ZJ a0.Xc.Z2).bind fun r21 => (M.ZK a0.Xc.Z3).bind fun r22 => (M.Zz a0.Xc.Zw).bind fun r23 => some (⟨a0.XT, a0.WL, r1, r2, r6, r10, r14, r15, (⟨a0.Yt.Qc, a0.Yt.Z6, r16, r17⟩ : Jw), (⟨a0.XV.Qc, a0.XV.Z6, a0.XV.Vp, a0.XV.Ql, r18⟩ : Y6), (⟨a0.Xc.Qc, a0.Xc.Xe, a0.Xc.Xf, r19, r20, r21, r22, r23⟩ : Jc)⟩ : Zg)
noncomputable def M.X5 (r1 : (List Zg)) (p2 : (List Zg) × Int) : Option (((List Zg) × Int) ⊕ (List Zg)) :=
  bif decide (p2.2 < (r1.length : Int)) then ((M.YF (p2.1.getD (0 + p2.2.toNat) default)).bind fun r4 => gd [decide (0 ≤ p2.2), decide (p2.2 < (p2.1.length : Int)), decide (0 ≤ p2.2), decide (p2.2 < (p2.1.length : Int))] (some (.inl (p2.1.set (0 + p2.2.toNat) r4, wr .i64 (p2.2 + 1))))) else (some (.inr p2.1))
noncomputable def M.Yi (a0 : Z7) : Option Z7 :=
  (M.ZW a0.Ze).bind fun r1 => (loopM (M.X5 r1) (r1, 0)).bind fun y5 => some (⟨y5⟩ : Z7)
noncomputable def M.Qo (a1 : List Int) (r1 : Q4 × Int) (p2 : Int) : Option (Int ⊕ Unit) :=
  bif decide (p2 < (a1.length : Int)) then (gd [decide (0 ≤ p2), decide (p2 < (a1.length : Int))] (gd [guardB ((!((decide ((a1.getD p2.toNat default) < 0)) || (decide ((a1.getD p2.toNat default) ≥ (r1.1.QC.length : Int))))) && (decide (p2 > 0))) (decide (0 ≤ (wr .i64 (p2 - 1)))), guardB ((!((decide ((a1.getD p2.toNat default) < 0)) || (decide ((a1.getD p2.toNat default) ≥ (r1.1.QC.length : Int))))) && (decide (p2 > 0))) (decide ((wr .i64 (p2 - 1)) < (a1.length : Int)))] (bif ((decide ((a1.getD p2.toNat default) < 0)) || (decide ((a1.getD p2.toNat default) ≥ (r1.1.QC.length : Int)))) || ((decide (p2 > 0)) && (decide ((a1.getD p2.toNat default) ≤ (a1.getD (wr .i64 (p2 - 1)).toNat default)))) then none else (some (.inl (wr .i64 (p2 + 1))))))) else (some (.inr ()))
noncomputable def M.QG (a0 : Z7) (a1 : List Int) : Option (Jq × Int) :=
  (M.QS a0).bind fun r1 => bif r1.2 != 0 then none else (bif decide ((a1.length : Int) > 2) then none else ((loopM (M.Qo a1 r1) 0).bind fun y4 => (M.Yi a0).bind fun r5 => (M.Xd a1).bind fun r6 => some ((⟨r5, r1.1, r6⟩ : Jq), 0)))
noncomputable def M.Z8 (a0 : List Je) (a1 : Je) (p1 : Int) : Option (Int ⊕ (Unit ⊕ Int)) :=
  bif decide (p1 < (a0.length : Int)) then (gd [decide (0 ≤ p1), decide (p1 < (a0.length : Int))] (bif ((a1.WM == ((a0.getD p1.toNat default).WM)) && ((a1.Ws == ((a0.getD p1.toNat default).Ws)) && true)) then (some (.inr (.inr p1))) else (some (.inl (wr .i64 (p1 + 1)))))) else (some (.inr (.inl ())))
noncomputable def M.Xa (a0 : List Je) (a1 : Je) : Option Int :=
  (loopM (M.Z8 a0 a1) 0).bind fun y3 => Sum.elim (fun _ => some (-1)) (fun y5 => some y5) y3
noncomputable def M.Z1 (a0 : List Je) (a1 : Je) : Option Bool :=
  (M.Xa a0 a1).bind fun r1 => some (decide (r1 ≥ 0))
noncomputable def M.Y3 (a0 : Jq) (a1 : Int) (a2 : Int) (p1 : Int) : Option (Int ⊕ (Unit ⊕ Int)) :=
  bif decide (p1 < (a0.Qx.YI.length : Int)) then (gd [decide (0 ≤ p1), decide (p1 < (a0.Qx.YI.length : Int))] ((M.Z1 ((a0.Qx.YI.getD p1.toNat default).XA) (⟨a1, a2⟩ : Je)).bind fun r3 => bif r3 then (some (.inr (.inr p1))) else (some (.inl (wr .i64 (p1 + 1)))))) else (some (.inr (.inl ())))
noncomputable def M.Y4 (a0 : Jq) (a1 : Int) (a2 : Int) : Option Int :=
  (loopM (M.Y3 a0 a1 a2) 0).bind fun y4 => Sum.elim (fun _ => none) (fun y6 => some y6) y4
noncomputable def M.XF (a0 : List Int) (a1 : Int) (p1 : Int) : Option (Int ⊕ (Unit ⊕ Int)) :=
  bif decide (p1 < (a0.length : Int)) then (gd [decide (0 ≤ p1), decide (p1 < (a0.length : Int))] (bif a1 == (a0.getD p1.toNat default) then (some (.inr (.inr p1))) else (some (.inl (wr .i64 (p1 + 1)))))) else (some (.inr (.inl ())))
noncomputable def M.Xm (a0 : List Int) (a1 : Int) : Option Int :=
  (loopM (M.XF a0 a1) 0).bind fun y3 => Sum.elim (fun _ => some (-1)) (fun y5 => some y5) y3
noncomputable def M.Jh (a0 : Jq) (a1 : Int) (a2 : Int) : Option Int :=
  (M.Y4 a0 a1 a2).bind fun r1 => bif decide (r1 < 0) then none else ((M.Xm a0.Qx.QC r1).bind fun r2 => some r2)
noncomputable def M.Xp (a0 : List Int) (a1 : Int) : Option Bool :=
  (M.Xm a0 a1).bind fun r1 => some (decide (r1 ≥ 0))
noncomputable def M.Ji (a0 : Jq) (a1 : Int) (a2 : Int) : Option Bool :=
  (M.Y4 a0 a1 a2).bind fun r1 => bif decide (r1 < 0) then none else ((M.Jh a0 a1 a2).bind fun r2 => (gc (!(decide (r2 < 0))) (M.Xp a0.UE r2)).bind fun r3 => some ((decide (r2 < 0)) || (!r3)))
noncomputable def M.YU  : Option Bool :=
  (M.Qg).bind fun r1 => (M.QG r1 ([] : List Int)).bind fun r2 => (M.Qg).bind fun r3 => (M.QG r3 ([0] : List Int)).bind fun r4 => (gc ((((r2.2 == 0) && (r4.2 == 0)) && ((r2.1.Qx.YI.length : Int) == 2)) && ((r2.1.Qx.QC.length : Int) == 1)) (M.Ji r2.1 0 0)).bind fun r5 => (gc (((((r2.2 == 0) && (r4.2 == 0)) && ((r2.1.Qx.YI.length : Int) == 2)) && ((r2.1.Qx.QC.length : Int) == 1)) && r5) (M.Ji r4.1 0 0)).bind fun r6 => (gc ((((((r2.2 == 0) && (r4.2 == 0)) && ((r2.1.Qx.YI.length : Int) == 2)) && ((r2.1.Qx.QC.length : Int) == 1)) && r5) && (!r6)) (M.Ji r4.1 1 1)).bind fun r7 => some (((((((r2.2 == 0) && (r4.2 == 0)) && ((r2.1.Qx.YI.length : Int) == 2)) && ((r2.1.Qx.QC.length : Int) == 1)) && r5) && (!r6)) && r7)
noncomputable def M.Yu (r1 : (List (List Int)) × Int) (r2 : (List (List Int)) × Int) (p3 : Int) : Option (Int ⊕ (Unit ⊕ Bool)) :=
  bif decide (p3 < (r1.1.length : Int)) then ((M.VJ (r1.1.getD p3.toNat default) (r2.1.getD p3.toNat default)).bind fun r5 => gd [decide (0 ≤ p3), decide (p3 < (r1.1.length : Int)), decide (0 ≤ p3), decide (p3 < (r2.1.length : Int))] (bif !r5 then (some (.inr (.inr false))) else (some (.inl (wr .i64 (p3 + 1)))))) else (some (.inr (.inl ())))
noncomputable def M.QT (a0 : Int) (a1 : Int) : Option Bool :=
  (M.Ye a0 a1).bind fun r1 => (M.X3 a0 a1).bind fun r2 => bif (r1.2 != r2.2) || ((r1.1.length : Int) != (r2.1.length : Int)) then (some false) else ((loopM (M.Yu r1 r2) 0).bind fun y6 => Sum.elim (fun _ => (M.YU).bind fun r9 => some r9) (fun y8 => some y8) y6)
end Nv
