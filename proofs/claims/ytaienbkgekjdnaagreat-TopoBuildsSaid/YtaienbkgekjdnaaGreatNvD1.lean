/- The mirrors: what each function of the given program computes, in plain terms. -/
import Derived.Test.YtaienbkgekjdnaaGreatNvLibB
import Derived.Test.YtaienbkgekjdnaaGreatNvLibD
import Derived.Test.YtaienbkgekjdnaaGreatNvLibC
set_option maxRecDepth 100000
namespace Nv
open Go
structure Zy where
  ZW : ByteArray
  Zu : Int
  ZJ : Int
  Xr : Int
  K3 : Bool
  Yi : Bool
  JV : Int
  K4 : Int
  YC : Bool
  VQ : ByteArray
  YV : ByteArray
  Rw : Int
  deriving Inhabited
def Zn (x : Zy) : List D := [.str x.ZW, .int .u32 x.Zu, .int .i64 x.ZJ, .int .i64 x.Xr, .bool x.K3, .bool x.Yi, .int .i64 x.JV, .int .i64 x.K4, .bool x.YC, .str x.VQ, .str x.YV, .int .i64 x.Rw]
structure ZL where
  Zu : Int
  ZJ : Int
  deriving Inhabited
def Z9 (x : ZL) : List D := [.int .u32 x.Zu, .int .i64 x.ZJ]
structure UY where
  Zdm : Bool
  Zp : ZL
  ZbR : Int
  ZbS : Int
  deriving Inhabited
def G7 (x : UY) : List D := [.bool x.Zdm, .int .u32 x.Zp.Zu, .int .i64 x.Zp.ZJ, .int .i64 x.ZbR, .int .i64 x.ZbS]
structure Z1 where
  ZW : ByteArray
  Xz : List UY
  deriving Inhabited
def ZC (x : Z1) : List D := [.str x.ZW, sL 5 G7 x.Xz]
structure GK where
  Zdm : Bool
  QP : ByteArray
  US : Int
  WL : Int
  GL : Int
  UZ : Int
  U0 : Int
  deriving Inhabited
def ZbO (x : GK) : List D := [.bool x.Zdm, .str x.QP, .int .i64 x.US, .int .i64 x.WL, .int .i64 x.GL, .int .i64 x.UZ, .int .i64 x.U0]
structure X1 where
  ZW : ByteArray
  Xl : List GK
  deriving Inhabited
def Z6 (x : X1) : List D := [.str x.ZW, sL 7 ZbO x.Xl]
structure ZbP where
  Zu : Int
  Gb : Int
  deriving Inhabited
def Zh0 (x : ZbP) : List D := [.int .u32 x.Zu, .int .u32 x.Gb]
structure JW where
  Gc : Int
  GM : Int
  deriving Inhabited
def Kr (x : JW) : List D := [.int .i64 x.Gc, .int .i64 x.GM]
structure Zar where
  Zdm : Bool
  Yb : Int
  Re : ZbP
  Rf : ZbP
  Vm : JW
  Vn : JW
  deriving Inhabited
def Zdn (x : Zar) : List D := [.bool x.Zdm, .int .i64 x.Yb, .int .u32 x.Re.Zu, .int .u32 x.Re.Gb, .int .u32 x.Rf.Zu, .int .u32 x.Rf.Gb, .int .i64 x.Vm.Gc, .int .i64 x.Vm.GM, .int .i64 x.Vn.Gc, .int .i64 x.Vn.GM]
structure WD where
  ZW : ByteArray
  Xz : List Zar
  deriving Inhabited
def Qb (x : WD) : List D := [.str x.ZW, sL 10 Zdn x.Xz]
structure YS where
  JT : Int
  Qj : Int
  Yv : Int
  Yb : Int
  QI : Int
  Qe : Int
  QP : ByteArray
  Gc : Int
  GM : Int
  deriving Inhabited
def Xa (x : YS) : List D := [.int .i64 x.JT, .int .u32 x.Qj, .int .u32 x.Yv, .int .i64 x.Yb, .int .i64 x.QI, .int .i64 x.Qe, .str x.QP, .int .u32 x.Gc, .int .u32 x.GM]
structure Yc where
  Zp : ZL
  Vf : Int
  QB : ByteArray
  Vt : Bool
  Xj : Int
  US : Int
  deriving Inhabited
def Z5 (x : Yc) : List D := [.int .u32 x.Zp.Zu, .int .i64 x.Zp.ZJ, .int .u32 x.Vf, .str x.QB, .bool x.Vt, .int .i64 x.Xj, .int .i64 x.US]
structure VZ where
  JV : Int
  Zp : ZL
  deriving Inhabited
def Xx (x : VZ) : List D := [.int .i64 x.JV, .int .u32 x.Zp.Zu, .int .i64 x.Zp.ZJ]
structure Yw where
  WG : Int
  Ks : Int
  US : Int
  Rg : ByteArray
  G0 : Int
  deriving Inhabited
def ZD (x : Yw) : List D := [.int .i64 x.WG, .int .i64 x.Ks, .int .i64 x.US, .str x.Rg, .int .i64 x.G0]
structure We where
  Wr : Bool
  Xj : Int
  ZK : List VZ
  Zv : List Yw
  deriving Inhabited
def Kt (x : We) : List D := [.bool x.Wr, .int .i64 x.Xj, sL 3 Xx x.ZK, sL 5 ZD x.Zv]
structure Qw where
  Wr : Bool
  Xj : Int
  VQ : ByteArray
  YV : ByteArray
  Zv : List Yw
  deriving Inhabited
def Zdo (x : Qw) : List D := [.bool x.Wr, .int .i64 x.Xj, .str x.VQ, .str x.YV, sL 5 ZD x.Zv]
structure Vo where
  Zu : Int
  GN : Int
  VQ : ByteArray
  YV : ByteArray
  deriving Inhabited
def XG (x : Vo) : List D := [.int .u32 x.Zu, .int .i64 x.GN, .str x.VQ, .str x.YV]
structure V0 where
  Zp : ZL
  ZmE : Bool
  deriving Inhabited
def Xy (x : V0) : List D := [.int .u32 x.Zp.Zu, .int .i64 x.Zp.ZJ, .bool x.ZmE]
structure V2 where
  Zp : ZL
  fIf : ZL
  Zl4 : Bool
  deriving Inhabited
def Xu (x : V2) : List D := [.int .u32 x.Zp.Zu, .int .i64 x.Zp.ZJ, .int .u32 x.fIf.Zu, .int .i64 x.fIf.ZJ, .bool x.Zl4]
structure Z4 where
  Wr : Bool
  X4 : Int
  X5 : Int
  Zl : List Vo
  Zt : List ZL
  Zr : List V0
  Zo : List V2
  Zv : List Yw
  deriving Inhabited
def UJ (x : Z4) : List D := [.bool x.Wr, .int .i64 x.X4, .int .i64 x.X5, sL 4 XG x.Zl, sL 2 Z9 x.Zt, sL 3 Xy x.Zr, sL 5 Xu x.Zo, sL 5 ZD x.Zv]
structure Zf where
  ZW : ByteArray
  GN : Int
  Zc : List Zy
  Xk : List Z1
  Z8 : List X1
  XO : List WD
  Xd : List YS
  Zq : List Yc
  Yi : We
  YC : Qw
  Xb : Z4
  deriving Inhabited
def Zx (x : Zf) : List D := [.str x.ZW, .int .i64 x.GN, sL 12 Zn x.Zc, sL 2 ZC x.Xk, sL 2 Z6 x.Z8, sL 2 Qb x.XO, sL 9 Xa x.Xd, sL 7 Z5 x.Zq, .bool x.Yi.Wr, .int .i64 x.Yi.Xj, sL 3 Xx x.Yi.ZK, sL 5 ZD x.Yi.Zv, .bool x.YC.Wr, .int .i64 x.YC.Xj, .str x.YC.VQ, .str x.YC.YV, sL 5 ZD x.YC.Zv, .bool x.Xb.Wr, .int .i64 x.Xb.X4, .int .i64 x.Xb.X5, sL 4 XG x.Xb.Zl, sL 2 Z9 x.Xb.Zt, sL 3 Xy x.Xb.Zr, sL 5 Xu x.Xb.Zo, sL 5 ZD x.Xb.Zv]
structure ZX where
  Zd : List Zf
  deriving Inhabited
def Yg (x : ZX) : List D := [sL 25 Zx x.Zd]
structure VS where
  G8 : Int
  QB : Int
  deriving Inhabited
def Xq (x : VS) : List D := [.int .i64 x.G8, .int .i64 x.QB]
structure Zk where
  Zp : ZL
  Xr : Int
  Xf : List VS
  deriving Inhabited
def ZU (x : Zk) : List D := [.int .u32 x.Zp.Zu, .int .i64 x.Zp.ZJ, .int .i64 x.Xr, sL 2 Xq x.Xf]
structure Qu where
  XT : List Zk
  Wy : List Int
  deriving Inhabited
def Ws (x : Qu) : List D := [sL 4 ZU x.XT, sL 1 (ci .i64) x.Wy]
structure Z7 where
  K5 : ZL
  Zjf : Int
  deriving Inhabited
def Xg (x : Z7) : List D := [.int .u32 x.K5.Zu, .int .i64 x.K5.ZJ, .int .i64 x.Zjf]
structure Gj where
  ZmH : ZX
  Ub : Qu
  K3 : List Int
  deriving Inhabited
def Gk (x : Gj) : List D := [sL 25 Zx x.ZmH.Zd, sL 4 ZU x.Ub.XT, sL 1 (ci .i64) x.Ub.Wy, sL 1 (ci .i64) x.K3]
def topoKeyEq (a b : Z7) : Bool := (((a.K5.Zu == b.K5.Zu) && ((a.K5.ZJ == b.K5.ZJ) && true)) && ((a.Zjf == b.Zjf) && true))
def hdDom (x : Zk) : List D := [.int .u32 x.Zp.Zu, .int .i64 x.Zp.ZJ, .int .i64 x.Xr]
noncomputable def M.Wi (a0 : Zf) (p1 : Int) : Option (Int ⊕ (Unit ⊕ Bool)) :=
  bif decide (p1 < (a0.Xk.length : Int)) then (gd [decide (0 ≤ p1), decide (p1 < (a0.Xk.length : Int))] (bif decide ((((a0.Xk.getD p1.toNat default).Xz).length : Int) > 20) then (some (.inr (.inr false))) else (some (.inl (wr .i64 (p1 + 1)))))) else (some (.inr (.inl ())))
noncomputable def M.Wj (a0 : Zf) (p6 : Int) : Option (Int ⊕ (Unit ⊕ Bool)) :=
  bif decide (p6 < (a0.Z8.length : Int)) then (gd [decide (0 ≤ p6), decide (p6 < (a0.Z8.length : Int))] (bif decide ((((a0.Z8.getD p6.toNat default).Xl).length : Int) > 12) then (some (.inr (.inr false))) else (some (.inl (wr .i64 (p6 + 1)))))) else (some (.inr (.inl ())))
noncomputable def M.Wk (a0 : Zf) (p11 : Int) : Option (Int ⊕ (Unit ⊕ Bool)) :=
  bif decide (p11 < (a0.XO.length : Int)) then (gd [decide (0 ≤ p11), decide (p11 < (a0.XO.length : Int))] (bif decide ((((a0.XO.getD p11.toNat default).Xz).length : Int) > 20) then (some (.inr (.inr false))) else (some (.inl (wr .i64 (p11 + 1)))))) else (some (.inr (.inl ())))
noncomputable def M.VH (a0 : Zf) : Option Bool :=
  bif (((((((((((((decide ((a0.Zc.length : Int) > 12)) || (decide ((a0.Xk.length : Int) > 12))) || (decide ((a0.Z8.length : Int) > 12))) || (decide ((a0.XO.length : Int) > 12))) || (decide ((a0.Xd.length : Int) > 12))) || (decide ((a0.Zq.length : Int) > 20))) || (decide ((a0.Yi.ZK.length : Int) > 8))) || (decide ((a0.Yi.Zv.length : Int) > 8))) || (decide ((a0.YC.Zv.length : Int) > 8))) || (decide ((a0.Xb.Zv.length : Int) > 8))) || (decide ((a0.Xb.Zl.length : Int) > 12))) || (decide ((a0.Xb.Zt.length : Int) > 12))) || (decide ((a0.Xb.Zr.length : Int) > 12))) || (decide ((a0.Xb.Zo.length : Int) > 12)) then (some false) else ((loopM (M.Wi a0) 0).bind fun y3 => Sum.elim (fun _ => (loopM (M.Wj a0) 0).bind fun y8 => Sum.elim (fun _ => (loopM (M.Wk a0) 0).bind fun y13 => Sum.elim (fun _ => some true) (fun y15 => some y15) y13) (fun y10 => some y10) y8) (fun y5 => some y5) y3)
noncomputable def M.YW (a0 : ZX) (p1 : Int) : Option (Int ⊕ (Unit ⊕ Bool)) :=
  bif decide (p1 < (a0.Zd.length : Int)) then ((M.VH (a0.Zd.getD p1.toNat default)).bind fun r3 => gd [decide (0 ≤ p1), decide (p1 < (a0.Zd.length : Int))] (bif !r3 then (some (.inr (.inr false))) else (some (.inl (wr .i64 (p1 + 1)))))) else (some (.inr (.inl ())))
noncomputable def M.VL (a0 : ZX) : Option Bool :=
  bif decide ((a0.Zd.length : Int) > 9) then (some false) else ((loopM (M.YW a0) 0).bind fun y4 => Sum.elim (fun _ => some true) (fun y6 => some y6) y4)
noncomputable def M.VM (a0 : Int) : Option Bool :=
  some (((decide (65 ≤ a0)) && (decide (a0 ≤ 90))) || ((decide (97 ≤ a0)) && (decide (a0 ≤ 122))))
noncomputable def M.W5 (a0 : Int) : Option Bool :=
  some ((decide (48 ≤ a0)) && (decide (a0 ≤ 57)))
noncomputable def M.V3 (a0 : ByteArray) (p2 : Int) : Option (Int ⊕ (Unit ⊕ Bool)) :=
  bif decide (p2 < (a0.size : Int)) then (gd [decide (0 ≤ p2), decide (p2 < (a0.size : Int))] ((M.VM (byteAt a0 p2)).bind fun r4 => (gc (!r4) (M.W5 (byteAt a0 p2))).bind fun r5 => bif (((((!r4) && (!r5)) && ((byteAt a0 p2) != 45)) && ((byteAt a0 p2) != 95)) && ((byteAt a0 p2) != 47)) && ((byteAt a0 p2) != 46) then (some (.inr (.inr false))) else (some (.inl (wr .i64 (p2 + 1)))))) else (some (.inr (.inl ())))
noncomputable def M.Wf (a0 : ByteArray) : Option Bool :=
  (gc (!((decide ((a0.size : Int) < 1)) || (decide ((a0.size : Int) > 15)))) (M.VM (byteAt a0 0))).bind fun r1 => gd [guardB (!((decide ((a0.size : Int) < 1)) || (decide ((a0.size : Int) > 15)))) (decide (0 ≤ 0)), guardB (!((decide ((a0.size : Int) < 1)) || (decide ((a0.size : Int) > 15)))) (decide (0 < (a0.size : Int)))] (bif ((decide ((a0.size : Int) < 1)) || (decide ((a0.size : Int) > 15))) || (!r1) then (some false) else ((loopM (M.V3 a0) 1).bind fun y6 => Sum.elim (fun _ => some true) (fun y8 => some y8) y6))
noncomputable def M.ZP (a0 : Int) (a1 : Int) (a2 : Int) : Option Bool :=
  some ((decide (a1 ≤ a0)) && (decide (a0 ≤ a2)))
noncomputable def M.Jt (a0 : Zy) (b0 : ByteArray) : Option Bool :=
  some (strEq a0.ZW b0)
noncomputable def M.ZE (a0 : List Zy) (a1c0 : ByteArray) (p1 : Int) : Option (Int ⊕ (Unit ⊕ Int)) :=
  bif decide (p1 < (a0.length : Int)) then ((M.Jt (a0.getD p1.toNat default) a1c0).bind fun r3 => gd [decide (0 ≤ p1), decide (p1 < (a0.length : Int))] (bif r3 then (some (.inr (.inr p1))) else (some (.inl (wr .i64 (p1 + 1)))))) else (some (.inr (.inl ())))
noncomputable def M.ZF (a0 : List Zy) (a1c0 : ByteArray) : Option Int :=
  (loopM (M.ZE a0 a1c0) 0).bind fun y4 => Sum.elim (fun _ => some (-1)) (fun y6 => some y6) y4
noncomputable def M.Qh (a0 : Zf) (a1 : ByteArray) : Option Int :=
  (M.ZF a0.Zc a1).bind fun r1 => some r1
noncomputable def M.Qq (a0 : Zy) : Option Bool :=
  (M.ZP a0.ZJ 0 32).bind fun r1 => (gc (!(!r1)) (M.ZP a0.Xr 0 4094)).bind fun r2 => (gc (!((!r1) || (!r2))) (M.ZP a0.Rw 0 2)).bind fun r3 => bif ((!r1) || (!r2)) || (!r3) then (some false) else (bif (a0.ZJ == 0) && (((((((a0.Zu != 0) || (a0.Xr != 0)) || (a0.Rw != 0)) || a0.Yi) || a0.YC) || (!strEq a0.VQ (⟨#[]⟩ : ByteArray))) || (!strEq a0.YV (⟨#[]⟩ : ByteArray))) then (some false) else (bif (a0.ZJ != 0) && (a0.Zu == 0) then (some false) else (bif a0.Yi then ((M.ZP a0.JV 0 255).bind fun r4 => (gc r4 (M.ZP a0.K4 1 65535)).bind fun r5 => some (r4 && r5)) else (some ((a0.JV == 0) && (a0.K4 == 0))))))
noncomputable def M.JC (a0 : Int) : Option Int :=
  some (if (if 32 < a0 then 32 else a0) > 0 then (if 32 < a0 then 32 else a0) else 0)
noncomputable def M.JU (a0 : Int) : Option Int :=
  (M.JC a0).bind fun r1 => gd [decide (0 ≤ (wr .i64 (32 - r1)))] (some (wr .u32 (4294967295 * 2 ^ min (wr .i64 (32 - r1)).toNat 32)))
noncomputable def M.YT (a0 : Int) (a1 : Int) : Option ZL :=
  (M.JU a1).bind fun r1 => (M.JC a1).bind fun r2 => some (⟨bitD .and .u32 a0 r1, r2⟩ : ZL)
noncomputable def M.Wl (a0 : ZL) (a1 : Int) : Option Bool :=
  (M.JU a0.ZJ).bind fun r1 => some ((bitD .and .u32 a1 r1) == a0.Zu)
noncomputable def M.Wt (a0 : ZL) (a1 : ZL) : Option Bool :=
  (gc (decide (a0.ZJ ≤ a1.ZJ)) (M.Wl a0 a1.Zu)).bind fun r1 => some ((decide (a0.ZJ ≤ a1.ZJ)) && r1)
noncomputable def M.J4 (a0 : ZL) (a1 : ZL) : Option Bool :=
  (M.Wt a0 a1).bind fun r1 => (gc (!r1) (M.Wt a1 a0)).bind fun r2 => some (r1 || r2)
noncomputable def M.Yj (a0 : Zf) (p1 : Int) (p6 : Int) : Option (Int ⊕ (Unit ⊕ Int)) :=
  bif decide (p6 < ((p1.toNat - 0 : Nat) : Int)) then (gd [decide (0 ≤ p6), decide (p6 < (((a0.Zc.drop 0).take (p1.toNat - 0)).length : Int))] ((gc ((((a0.Zc.getD p1.toNat default).ZJ) != 0) && (((((a0.Zc.drop 0).take (p1.toNat - 0)).getD p6.toNat default).ZJ) != 0)) (M.YT ((a0.Zc.getD p1.toNat default).Zu) ((a0.Zc.getD p1.toNat default).ZJ))).bind fun r8 => (gc ((((a0.Zc.getD p1.toNat default).ZJ) != 0) && (((((a0.Zc.drop 0).take (p1.toNat - 0)).getD p6.toNat default).ZJ) != 0)) (M.YT ((((a0.Zc.drop 0).take (p1.toNat - 0)).getD p6.toNat default).Zu) ((((a0.Zc.drop 0).take (p1.toNat - 0)).getD p6.toNat default).ZJ))).bind fun r9 => (gc ((((a0.Zc.getD p1.toNat default).ZJ) != 0) && (((((a0.Zc.drop 0).take (p1.toNat - 0)).getD p6.toNat default).ZJ) != 0)) (M.J4 r8 r9)).bind fun r10 => bif ((((a0.Zc.getD p1.toNat default).ZJ) != 0) && (((((a0.Zc.drop 0).take (p1.toNat - 0)).getD p6.toNat default).ZJ) != 0)) && r10 then (some (.inr (.inr 6))) else (some (.inl (wr .i64 (p6 + 1)))))) else (some (.inr (.inl ())))
noncomputable def M.Yz (a0 : Zf) (p1 : Int) : Option (Int ⊕ (Unit ⊕ Int)) :=
  bif decide (p1 < (a0.Zc.length : Int)) then (gd [decide (0 ≤ p1), decide (p1 < (a0.Zc.length : Int))] ((M.Wf ((a0.Zc.getD p1.toNat default).ZW)).bind fun r3 => bif !r3 then (some (.inr (.inr 3))) else ((M.Qh a0 ((a0.Zc.getD p1.toNat default).ZW)).bind fun r4 => bif decide (r4 < p1) then (some (.inr (.inr 4))) else ((M.Qq (a0.Zc.getD p1.toNat default)).bind fun r5 => bif !r5 then (some (.inr (.inr 1))) else (gd [decide (0 ≤ p1), decide (p1 ≤ (a0.Zc.length : Int))] ((loopM (M.Yj a0 p1) 0).bind fun y11 => Sum.elim (fun _ => some (.inl (wr .i64 (p1 + 1)))) (fun y13 => some (.inr (.inr y13))) y11)))))) else (some (.inr (.inl ())))
noncomputable def M.YH (a0 : Zf) : Option Int :=
  bif decide ((a0.Zc.length : Int) > 8) then (some 7) else ((loopM (M.Yz a0) 0).bind fun y14 => Sum.elim (fun _ => some 0) (fun y16 => some y16) y14)
noncomputable def M.JD (a0 : Z1) (b0 : ByteArray) : Option Bool :=
  some (strEq a0.ZW b0)
noncomputable def M.ZG (a0 : List Z1) (a1c0 : ByteArray) (p1 : Int) : Option (Int ⊕ (Unit ⊕ Int)) :=
  bif decide (p1 < (a0.length : Int)) then ((M.JD (a0.getD p1.toNat default) a1c0).bind fun r3 => gd [decide (0 ≤ p1), decide (p1 < (a0.length : Int))] (bif r3 then (some (.inr (.inr p1))) else (some (.inl (wr .i64 (p1 + 1)))))) else (some (.inr (.inl ())))
noncomputable def M.ZM (a0 : List Z1) (a1c0 : ByteArray) : Option Int :=
  (loopM (M.ZG a0 a1c0) 0).bind fun y4 => Sum.elim (fun _ => some (-1)) (fun y6 => some y6) y4
noncomputable def M.Yo (a0 : Zf) (a1 : ByteArray) : Option Int :=
  (M.ZM a0.Xk a1).bind fun r1 => some r1
noncomputable def M.YQ (a0 : Int) (a1 : Int) (a2 : ByteArray) (a3 : Int) (a4 : Int) : Option Int :=
  (M.Wf a2).bind fun r1 => bif !r1 then (some 3) else (bif decide (a1 < a0) then (some 4) else (bif a3 == 0 then (some 1) else (bif decide (a3 > a4) then (some 7) else (some 0))))
noncomputable def M.QO (a0 : ZL) : Option Bool :=
  (gc ((decide (a0.ZJ ≥ 0)) && (decide (a0.ZJ ≤ 32))) (M.JU a0.ZJ)).bind fun r1 => some (((decide (a0.ZJ ≥ 0)) && (decide (a0.ZJ ≤ 32))) && ((bitD .andNot .u32 a0.Zu r1) == 0))
noncomputable def M.Yd (a0 : Zf) (p1 : Int) (p5 : Int) : Option (Int ⊕ (Unit ⊕ Int)) :=
  bif decide (p5 < (((a0.Xk.getD p1.toNat default).Xz).length : Int)) then (gd [decide (0 ≤ p5), decide (p5 < (((a0.Xk.getD p1.toNat default).Xz).length : Int))] ((M.QO ((((a0.Xk.getD p1.toNat default).Xz).getD p5.toNat default).Zp)).bind fun r7 => bif (((!r7) || (decide (((((a0.Xk.getD p1.toNat default).Xz).getD p5.toNat default).ZbR) < (((((a0.Xk.getD p1.toNat default).Xz).getD p5.toNat default).Zp).ZJ)))) || (decide (((((a0.Xk.getD p1.toNat default).Xz).getD p5.toNat default).ZbS) < ((((a0.Xk.getD p1.toNat default).Xz).getD p5.toNat default).ZbR)))) || (decide (((((a0.Xk.getD p1.toNat default).Xz).getD p5.toNat default).ZbS) > 32)) then (some (.inr (.inr 1))) else (some (.inl (wr .i64 (p5 + 1)))))) else (some (.inr (.inl ())))
noncomputable def M.Yn (a0 : Zf) (p1 : Int) : Option (Int ⊕ (Unit ⊕ Int)) :=
  bif decide (p1 < (a0.Xk.length : Int)) then (gd [decide (0 ≤ p1), decide (p1 < (a0.Xk.length : Int))] ((M.Yo a0 ((a0.Xk.getD p1.toNat default).ZW)).bind fun r3 => (M.YQ p1 r3 ((a0.Xk.getD p1.toNat default).ZW) (((a0.Xk.getD p1.toNat default).Xz).length : Int) 16).bind fun r4 => bif r4 != 0 then (some (.inr (.inr r4))) else ((loopM (M.Yd a0 p1) 0).bind fun y8 => Sum.elim (fun _ => some (.inl (wr .i64 (p1 + 1)))) (fun y10 => some (.inr (.inr y10))) y8))) else (some (.inr (.inl ())))
noncomputable def M.YA (a0 : Zf) : Option Int :=
  bif decide ((a0.Xk.length : Int) > 8) then (some 7) else ((loopM (M.Yn a0) 0).bind fun y11 => Sum.elim (fun _ => some 0) (fun y13 => some y13) y11)
noncomputable def M.Va (a0 : X1) (b0 : ByteArray) : Option Bool :=
  some (strEq a0.ZW b0)
noncomputable def M.ZT (a0 : List X1) (a1c0 : ByteArray) (p1 : Int) : Option (Int ⊕ (Unit ⊕ Int)) :=
  bif decide (p1 < (a0.length : Int)) then ((M.Va (a0.getD p1.toNat default) a1c0).bind fun r3 => gd [decide (0 ≤ p1), decide (p1 < (a0.length : Int))] (bif r3 then (some (.inr (.inr p1))) else (some (.inl (wr .i64 (p1 + 1)))))) else (some (.inr (.inl ())))
noncomputable def M.Z0 (a0 : List X1) (a1c0 : ByteArray) : Option Int :=
  (loopM (M.ZT a0 a1c0) 0).bind fun y4 => Sum.elim (fun _ => some (-1)) (fun y6 => some y6) y4
noncomputable def M.YX (a0 : Zf) (a1 : ByteArray) : Option Int :=
  (M.Z0 a0.Z8 a1).bind fun r1 => some r1
noncomputable def M.QW (a0 : GK) : Option Bool :=
  (M.ZP a0.US (-1) 65535).bind fun r1 => (gc r1 (M.ZP a0.WL (-1) 16777215)).bind fun r2 => (gc (r1 && r2) (M.ZP a0.GL (-1) 65535)).bind fun r3 => (gc ((r1 && r2) && r3) (M.ZP a0.UZ (-1) 1000000)).bind fun r4 => (gc (((r1 && r2) && r3) && r4) (M.ZP a0.U0 0 8)).bind fun r5 => some ((((r1 && r2) && r3) && r4) && r5)
noncomputable def M.Yp (a0 : Zf) (p1 : Int) (p5 : Int) : Option (Int ⊕ (Unit ⊕ Int)) :=
  bif decide (p5 < (((a0.Z8.getD p1.toNat default).Xl).length : Int)) then (gd [decide (0 ≤ p5), decide (p5 < (((a0.Z8.getD p1.toNat default).Xl).length : Int))] ((gc (!strEq ((((a0.Z8.getD p1.toNat default).Xl).getD p5.toNat default).QP) (⟨#[]⟩ : ByteArray)) (M.Yo a0 ((((a0.Z8.getD p1.toNat default).Xl).getD p5.toNat default).QP))).bind fun r7 => bif (!strEq ((((a0.Z8.getD p1.toNat default).Xl).getD p5.toNat default).QP) (⟨#[]⟩ : ByteArray)) && (decide (r7 < 0)) then (some (.inr (.inr 5))) else ((M.QW (((a0.Z8.getD p1.toNat default).Xl).getD p5.toNat default)).bind fun r8 => bif !r8 then (some (.inr (.inr 1))) else (some (.inl (wr .i64 (p5 + 1))))))) else (some (.inr (.inl ())))
noncomputable def M.YE (a0 : Zf) (p1 : Int) : Option (Int ⊕ (Unit ⊕ Int)) :=
  bif decide (p1 < (a0.Z8.length : Int)) then (gd [decide (0 ≤ p1), decide (p1 < (a0.Z8.length : Int))] ((M.YX a0 ((a0.Z8.getD p1.toNat default).ZW)).bind fun r3 => (M.YQ p1 r3 ((a0.Z8.getD p1.toNat default).ZW) (((a0.Z8.getD p1.toNat default).Xl).length : Int) 8).bind fun r4 => bif r4 != 0 then (some (.inr (.inr r4))) else ((loopM (M.Yp a0 p1) 0).bind fun y9 => Sum.elim (fun _ => some (.inl (wr .i64 (p1 + 1)))) (fun y11 => some (.inr (.inr y11))) y9))) else (some (.inr (.inl ())))
noncomputable def M.YY (a0 : Zf) : Option Int :=
  bif decide ((a0.Z8.length : Int) > 8) then (some 7) else ((loopM (M.YE a0) 0).bind fun y12 => Sum.elim (fun _ => some 0) (fun y14 => some y14) y12)
noncomputable def M.WX (a0 : WD) (b0 : ByteArray) : Option Bool :=
  some (strEq a0.ZW b0)
noncomputable def M.Xe (a0 : List WD) (a1c0 : ByteArray) (p1 : Int) : Option (Int ⊕ (Unit ⊕ Int)) :=
  bif decide (p1 < (a0.length : Int)) then ((M.WX (a0.getD p1.toNat default) a1c0).bind fun r3 => gd [decide (0 ≤ p1), decide (p1 < (a0.length : Int))] (bif r3 then (some (.inr (.inr p1))) else (some (.inl (wr .i64 (p1 + 1)))))) else (some (.inr (.inl ())))
noncomputable def M.Xm (a0 : List WD) (a1c0 : ByteArray) : Option Int :=
  (loopM (M.Xe a0 a1c0) 0).bind fun y4 => Sum.elim (fun _ => some (-1)) (fun y6 => some y6) y4
noncomputable def M.VN (a0 : Zf) (a1 : ByteArray) : Option Int :=
  (M.Xm a0.XO a1).bind fun r1 => some r1
noncomputable def M.QQ (a0 : JW) : Option Bool :=
  some (((decide (0 ≤ a0.Gc)) && (decide (a0.Gc ≤ a0.GM))) && (decide (a0.GM ≤ 65535)))
noncomputable def M.JG (a0 : Zar) : Option Bool :=
  (M.ZP a0.Yb (-1) 255).bind fun r1 => bif ((!r1) || ((bitD .and .u32 a0.Re.Zu a0.Re.Gb) != 0)) || ((bitD .and .u32 a0.Rf.Zu a0.Rf.Gb) != 0) then (some false) else ((M.QQ a0.Vm).bind fun r2 => (gc (!(!r2)) (M.QQ a0.Vn)).bind fun r3 => bif (!r2) || (!r3) then (some false) else (some (((a0.Yb == 6) || (a0.Yb == 17)) || (((a0.Vm.Gc == 0) && ((a0.Vm.GM == 65535) && true)) && ((a0.Vn.Gc == 0) && ((a0.Vn.GM == 65535) && true))))))
noncomputable def M.QC (a0 : Zf) (p1 : Int) (p5 : Int) : Option (Int ⊕ (Unit ⊕ Int)) :=
  bif decide (p5 < (((a0.XO.getD p1.toNat default).Xz).length : Int)) then (gd [decide (0 ≤ p5), decide (p5 < (((a0.XO.getD p1.toNat default).Xz).length : Int))] ((M.JG (((a0.XO.getD p1.toNat default).Xz).getD p5.toNat default)).bind fun r7 => bif !r7 then (some (.inr (.inr 1))) else (some (.inl (wr .i64 (p5 + 1)))))) else (some (.inr (.inl ())))
noncomputable def M.Ja (a0 : Zf) (p1 : Int) : Option (Int ⊕ (Unit ⊕ Int)) :=
  bif decide (p1 < (a0.XO.length : Int)) then (gd [decide (0 ≤ p1), decide (p1 < (a0.XO.length : Int))] ((M.VN a0 ((a0.XO.getD p1.toNat default).ZW)).bind fun r3 => (M.YQ p1 r3 ((a0.XO.getD p1.toNat default).ZW) (((a0.XO.getD p1.toNat default).Xz).length : Int) 16).bind fun r4 => bif r4 != 0 then (some (.inr (.inr r4))) else ((loopM (M.QC a0 p1) 0).bind fun y8 => Sum.elim (fun _ => some (.inl (wr .i64 (p1 + 1)))) (fun y10 => some (.inr (.inr y10))) y8))) else (some (.inr (.inl ())))
noncomputable def M.JH (a0 : Zf) : Option Int :=
  bif decide ((a0.XO.length : Int) > 8) then (some 7) else ((loopM (M.Ja a0) 0).bind fun y11 => Sum.elim (fun _ => some 0) (fun y13 => some y13) y11)
noncomputable def M.YU (a0 : YS) : Option Bool :=
  bif a0.JT == 1 then (some ((((a0.JT == a0.JT) && ((a0.Qj == a0.Qj) && ((a0.Yv == a0.Yv) && ((a0.Yb == 0) && ((a0.QI == 0) && ((a0.Qe == 0) && (strEq a0.QP (⟨#[]⟩ : ByteArray) && ((a0.Gc == 0) && ((a0.GM == 0) && true))))))))) && (a0.Qj != 0)) && (a0.Yv != 0))) else (bif a0.JT == 2 then (some (((((a0.JT == a0.JT) && ((a0.Qj == 0) && ((a0.Yv == 0) && ((a0.Yb == 0) && ((a0.QI == 0) && ((a0.Qe == 0) && (strEq a0.QP a0.QP && ((a0.Gc == a0.Gc) && ((a0.GM == a0.GM) && true))))))))) && (a0.Gc != 0)) && (decide (a0.Gc ≤ a0.GM))) && (decide ((wr .u32 (a0.GM - a0.Gc)) < 8)))) else (bif a0.JT == 3 then ((gc (((a0.Qj != 0) && (a0.Yv != 0)) && ((a0.Yb == 6) || (a0.Yb == 17))) (M.ZP a0.QI 0 65535)).bind fun r1 => (gc ((((a0.Qj != 0) && (a0.Yv != 0)) && ((a0.Yb == 6) || (a0.Yb == 17))) && r1) (M.ZP a0.Qe 0 65535)).bind fun r2 => some ((((((((a0.Qj != 0) && (a0.Yv != 0)) && ((a0.Yb == 6) || (a0.Yb == 17))) && r1) && r2) && (strEq a0.QP (⟨#[]⟩ : ByteArray))) && (a0.Gc == 0)) && (a0.GM == 0))) else (some false)))
noncomputable def M.Ju (a0 : Zf) (p1 : Int) : Option (Int ⊕ (Unit ⊕ Int)) :=
  bif decide (p1 < (a0.Xd.length : Int)) then (gd [decide (0 ≤ p1), decide (p1 < (a0.Xd.length : Int))] ((M.YU (a0.Xd.getD p1.toNat default)).bind fun r3 => bif !r3 then (some (.inr (.inr 1))) else ((gc (((a0.Xd.getD p1.toNat default).JT) == 2) (M.VN a0 ((a0.Xd.getD p1.toNat default).QP))).bind fun r4 => bif (((a0.Xd.getD p1.toNat default).JT) == 2) && (decide (r4 < 0)) then (some (.inr (.inr 5))) else (some (.inl (wr .i64 (p1 + 1))))))) else (some (.inr (.inl ())))
noncomputable def M.JX (a0 : Zf) : Option Int :=
  bif decide ((a0.Xd.length : Int) > 8) then (some 7) else ((loopM (M.Ju a0) 0).bind fun y5 => Sum.elim (fun _ => some 0) (fun y7 => some y7) y5)
noncomputable def M.QH (a0 : Zf) (p1 : Int) : Option (Int ⊕ (Unit ⊕ Int)) :=
  bif decide (p1 < (a0.Zc.length : Int)) then (gd [decide (0 ≤ p1), decide (p1 < (a0.Zc.length : Int))] ((gc (!strEq ((a0.Zc.getD p1.toNat default).VQ) (⟨#[]⟩ : ByteArray)) (M.VN a0 ((a0.Zc.getD p1.toNat default).VQ))).bind fun r3 => (gc ((!((!strEq ((a0.Zc.getD p1.toNat default).VQ) (⟨#[]⟩ : ByteArray)) && (decide (r3 < 0)))) && (!strEq ((a0.Zc.getD p1.toNat default).YV) (⟨#[]⟩ : ByteArray))) (M.VN a0 ((a0.Zc.getD p1.toNat default).YV))).bind fun r4 => bif ((!strEq ((a0.Zc.getD p1.toNat default).VQ) (⟨#[]⟩ : ByteArray)) && (decide (r3 < 0))) || ((!strEq ((a0.Zc.getD p1.toNat default).YV) (⟨#[]⟩ : ByteArray)) && (decide (r4 < 0))) then (some (.inr (.inr 5))) else (some (.inl (wr .i64 (p1 + 1)))))) else (some (.inr (.inl ())))
noncomputable def M.Jb (a0 : Zf) : Option Int :=
  (loopM (M.QH a0) 0).bind fun y5 => Sum.elim (fun _ => some 0) (fun y7 => some y7) y5
noncomputable def M.VB (a0 : Zy) (b0 : Int) : Option Bool :=
  some ((a0.ZJ != 0) && (a0.Zu == b0))
noncomputable def M.ZR (a0 : List Zy) (a1c0 : Int) (p1 : Int) : Option (Int ⊕ (Unit ⊕ Int)) :=
  bif decide (p1 < (a0.length : Int)) then ((M.VB (a0.getD p1.toNat default) a1c0).bind fun r3 => gd [decide (0 ≤ p1), decide (p1 < (a0.length : Int))] (bif r3 then (some (.inr (.inr p1))) else (some (.inl (wr .i64 (p1 + 1)))))) else (some (.inr (.inl ())))
noncomputable def M.ZY (a0 : List Zy) (a1c0 : Int) : Option Int :=
  (loopM (M.ZR a0 a1c0) 0).bind fun y4 => Sum.elim (fun _ => some (-1)) (fun y6 => some y6) y4
noncomputable def M.J5 (a0 : Zf) (a1 : Int) : Option Int :=
  (M.ZY a0.Zc a1).bind fun r1 => some r1
noncomputable def M.YD (p1 : Int × Int) (p3 : Int) : Option ((Int × Int) ⊕ Int) :=
  some (.inl (p3, wr .i64 (p1.2 + 1)))
noncomputable def M.YZ (a1 : Yc) (p1 : Int × Int) : Option ((Int × Int) ⊕ Int) :=
  bif decide (p1.2 < 3) then (gd [decide (0 ≤ p1.2), decide (p1.2 < (([a1.Vf != 0, !strEq a1.QB (⟨#[]⟩ : ByteArray), a1.Vt] : List Bool).length : Int))] (bif ([a1.Vf != 0, !strEq a1.QB (⟨#[]⟩ : ByteArray), a1.Vt] : List Bool).getD p1.2.toNat default then (M.YD p1 (wr .i64 (p1.1 + 1))) else (M.YD p1 p1.1))) else (some (.inr p1.1))
noncomputable def M.Qx (a0 : Zf) (a1 : Yc) : Option Bool :=
  (loopM (M.YZ a1) (0, 0)).bind fun y4 => (M.QO a1.Zp).bind fun r5 => (gc ((r5 && (y4 == 1)) && !(a1.Vf == 0)) (M.J5 a0 a1.Vf)).bind fun r6 => (gc ((r5 && (y4 == 1)) && ((a1.Vf == 0) || (decide (r6 < 0)))) (M.ZP a1.Xj 1 255)).bind fun r7 => (gc (((r5 && (y4 == 1)) && ((a1.Vf == 0) || (decide (r6 < 0)))) && r7) (M.ZP a1.US 0 65535)).bind fun r8 => some ((((r5 && (y4 == 1)) && ((a1.Vf == 0) || (decide (r6 < 0)))) && r7) && r8)
noncomputable def M.YI (a0 : Zf) (p1 : Int) (p5 : Int) : Option (Int ⊕ (Unit ⊕ Int)) :=
  bif decide (p5 < ((p1.toNat - 0 : Nat) : Int)) then (gd [decide (0 ≤ p5), decide (p5 < (((a0.Zq.drop 0).take (p1.toNat - 0)).length : Int))] (bif (((((((a0.Zq.drop 0).take (p1.toNat - 0)).getD p5.toNat default).Zp).Zu) == (((a0.Zq.getD p1.toNat default).Zp).Zu)) && (((((((a0.Zq.drop 0).take (p1.toNat - 0)).getD p5.toNat default).Zp).ZJ) == (((a0.Zq.getD p1.toNat default).Zp).ZJ)) && true)) && (((((a0.Zq.drop 0).take (p1.toNat - 0)).getD p5.toNat default).Xj) == ((a0.Zq.getD p1.toNat default).Xj)) then (some (.inr (.inr 6))) else (some (.inl (wr .i64 (p5 + 1)))))) else (some (.inr (.inl ())))
noncomputable def M.Yu (a0 : Zf) (p1 : Int) (_p4 : Unit) : Option (Int ⊕ (Unit ⊕ Int)) :=
  gd [decide (0 ≤ p1), decide (p1 ≤ (a0.Zq.length : Int))] ((loopM (M.YI a0 p1) 0).bind fun y7 => Sum.elim (fun _ => some (.inl (wr .i64 (p1 + 1)))) (fun y9 => some (.inr (.inr y9))) y7)
noncomputable def M.Qg (a0 : Zf) (p1 : Int) : Option (Int ⊕ (Unit ⊕ Int)) :=
  bif decide (p1 < (a0.Zq.length : Int)) then (gd [decide (0 ≤ p1), decide (p1 < (a0.Zq.length : Int))] ((M.Qx a0 (a0.Zq.getD p1.toNat default)).bind fun r3 => bif !r3 then (some (.inr (.inr 1))) else (bif !strEq ((a0.Zq.getD p1.toNat default).QB) (⟨#[]⟩ : ByteArray) then ((M.Qh a0 ((a0.Zq.getD p1.toNat default).QB)).bind fun r10 => bif decide (r10 < 0) then (some (.inr (.inr 5))) else (gd [decide (0 ≤ r10), decide (r10 < (a0.Zc.length : Int))] (bif ((a0.Zc.getD r10.toNat default).ZJ) == 0 then (some (.inr (.inr 1))) else (M.Yu a0 p1 ())))) else (M.Yu a0 p1 ())))) else (some (.inr (.inl ())))
noncomputable def M.QD (a0 : Zf) : Option Int :=
  bif decide ((a0.Zq.length : Int) > 16) then (some 7) else ((loopM (M.Qg a0) 0).bind fun y11 => Sum.elim (fun _ => some 0) (fun y13 => some y13) y11)
noncomputable def M.Y0 (a1 : List Yw) (p1 : Int) (p8 : Int) : Option (Int ⊕ (Unit ⊕ Int)) :=
  bif decide (p8 < ((p1.toNat - 0 : Nat) : Int)) then (gd [decide (0 ≤ p8), decide (p8 < (((a1.drop 0).take (p1.toNat - 0)).length : Int))] (bif ((((a1.drop 0).take (p1.toNat - 0)).getD p8.toNat default).WG) == ((a1.getD p1.toNat default).WG) then (some (.inr (.inr 4))) else (some (.inl (wr .i64 (p8 + 1)))))) else (some (.inr (.inl ())))
noncomputable def M.Qr (a0 : Zf) (a1 : List Yw) (a2 : Int) (a3 : Int) (a4 : Int) (a5 : Int) (p1 : Int) : Option (Int ⊕ (Unit ⊕ Int)) :=
  bif decide (p1 < (a1.length : Int)) then (gd [decide (0 ≤ p1), decide (p1 < (a1.length : Int))] ((M.ZP ((a1.getD p1.toNat default).WG) 1 5).bind fun r3 => (gc (!((!r3) || (((a1.getD p1.toNat default).WG) == a2))) (M.ZP ((a1.getD p1.toNat default).Ks) a3 a4)).bind fun r4 => (gc (!(((!r3) || (((a1.getD p1.toNat default).WG) == a2)) || (!r4))) (M.ZP ((a1.getD p1.toNat default).US) 0 65535)).bind fun r5 => (gc (!((((!r3) || (((a1.getD p1.toNat default).WG) == a2)) || (!r4)) || (!r5))) (M.ZP ((a1.getD p1.toNat default).G0) (if a5 < 1 then a5 else 1) a5)).bind fun r6 => bif ((((!r3) || (((a1.getD p1.toNat default).WG) == a2)) || (!r4)) || (!r5)) || (!r6) then (some (.inr (.inr 1))) else ((gc (!strEq ((a1.getD p1.toNat default).Rg) (⟨#[]⟩ : ByteArray)) (M.YX a0 ((a1.getD p1.toNat default).Rg))).bind fun r7 => bif (!strEq ((a1.getD p1.toNat default).Rg) (⟨#[]⟩ : ByteArray)) && (decide (r7 < 0)) then (some (.inr (.inr 5))) else (gd [decide (0 ≤ p1), decide (p1 ≤ (a1.length : Int))] ((loopM (M.Y0 a1 p1) 0).bind fun y10 => Sum.elim (fun _ => some (.inl (wr .i64 (p1 + 1)))) (fun y12 => some (.inr (.inr y12))) y10))))) else (some (.inr (.inl ())))
noncomputable def M.YB (a0 : Zf) (a1 : List Yw) (a2 : Int) (a3 : Int) (a4 : Int) (a5 : Int) : Option Int :=
  bif decide ((a1.length : Int) > 4) then (some 7) else ((loopM (M.Qr a0 a1 a2 a3 a4 a5) 0).bind fun y13 => Sum.elim (fun _ => some 0) (fun y15 => some y15) y13)
noncomputable def M.Yq (a0 : Zf) (p2 : Int) (p6 : Int) : Option (Int ⊕ (Unit ⊕ Int)) :=
  bif decide (p6 < ((p2.toNat - 0 : Nat) : Int)) then (gd [decide (0 ≤ p6), decide (p6 < (((a0.Yi.ZK.drop 0).take (p2.toNat - 0)).length : Int))] ((gc (((((a0.Yi.ZK.drop 0).take (p2.toNat - 0)).getD p6.toNat default).JV) == ((a0.Yi.ZK.getD p2.toNat default).JV)) (M.J4 ((((a0.Yi.ZK.drop 0).take (p2.toNat - 0)).getD p6.toNat default).Zp) ((a0.Yi.ZK.getD p2.toNat default).Zp))).bind fun r8 => bif (((((a0.Yi.ZK.drop 0).take (p2.toNat - 0)).getD p6.toNat default).JV) == ((a0.Yi.ZK.getD p2.toNat default).JV)) && r8 then (some (.inr (.inr 6))) else (some (.inl (wr .i64 (p6 + 1)))))) else (some (.inr (.inl ())))
noncomputable def M.YF (a0 : Zf) (p2 : Int) : Option (Int ⊕ (Unit ⊕ Int)) :=
  bif decide (p2 < (a0.Yi.ZK.length : Int)) then (gd [decide (0 ≤ p2), decide (p2 < (a0.Yi.ZK.length : Int))] ((M.ZP ((a0.Yi.ZK.getD p2.toNat default).JV) 0 255).bind fun r4 => (gc (!(!r4)) (M.QO ((a0.Yi.ZK.getD p2.toNat default).Zp))).bind fun r5 => bif (!r4) || (!r5) then (some (.inr (.inr 1))) else (gd [decide (0 ≤ p2), decide (p2 ≤ (a0.Yi.ZK.length : Int))] ((loopM (M.Yq a0 p2) 0).bind fun y9 => Sum.elim (fun _ => some (.inl (wr .i64 (p2 + 1)))) (fun y11 => some (.inr (.inr y11))) y9)))) else (some (.inr (.inl ())))
noncomputable def M.Y1 (a0 : Zf) : Option Int :=
  bif !a0.Yi.Wr then (bif ((a0.Yi.Xj != 0) || (decide ((a0.Yi.ZK.length : Int) > 0))) || (decide ((a0.Yi.Zv.length : Int) > 0)) then (some 1) else (some 0)) else ((M.ZP a0.Yi.Xj 1 255).bind fun r1 => bif !r1 then (some 1) else (bif decide ((a0.Yi.ZK.length : Int) > 4) then (some 7) else ((loopM (M.YF a0) 0).bind fun y12 => Sum.elim (fun _ => (M.YB a0 a0.Yi.Zv 3 0 16777215 2).bind fun r15 => some r15) (fun y14 => some y14) y12)))
noncomputable def M.Ye (a0 : Zf) : Option Int :=
  bif !a0.YC.Wr then (bif (((a0.YC.Xj != 0) || (!strEq a0.YC.VQ (⟨#[]⟩ : ByteArray))) || (!strEq a0.YC.YV (⟨#[]⟩ : ByteArray))) || (decide ((a0.YC.Zv.length : Int) > 0)) then (some 1) else (some 0)) else ((M.ZP a0.YC.Xj 1 255).bind fun r1 => bif !r1 then (some 1) else ((gc (!strEq a0.YC.VQ (⟨#[]⟩ : ByteArray)) (M.Yo a0 a0.YC.VQ)).bind fun r2 => (gc ((!((!strEq a0.YC.VQ (⟨#[]⟩ : ByteArray)) && (decide (r2 < 0)))) && (!strEq a0.YC.YV (⟨#[]⟩ : ByteArray))) (M.Yo a0 a0.YC.YV)).bind fun r3 => bif ((!strEq a0.YC.VQ (⟨#[]⟩ : ByteArray)) && (decide (r2 < 0))) || ((!strEq a0.YC.YV (⟨#[]⟩ : ByteArray)) && (decide (r3 < 0))) then (some 5) else ((M.YB a0 a0.YC.Zv 4 1 15 0).bind fun r4 => some r4)))
noncomputable def M.Yr (a0 : Zf) (p1 : Int) (p6 : Int) : Option (Int ⊕ (Unit ⊕ Int)) :=
  bif decide (p6 < ((p1.toNat - 0 : Nat) : Int)) then (gd [decide (0 ≤ p6), decide (p6 < (((a0.Xb.Zl.drop 0).take (p1.toNat - 0)).length : Int))] (bif ((((a0.Xb.Zl.drop 0).take (p1.toNat - 0)).getD p6.toNat default).Zu) == ((a0.Xb.Zl.getD p1.toNat default).Zu) then (some (.inr (.inr 4))) else (some (.inl (wr .i64 (p6 + 1)))))) else (some (.inr (.inl ())))
noncomputable def M.YG (a0 : Zf) (p1 : Int) : Option (Int ⊕ (Unit ⊕ Int)) :=
  bif decide (p1 < (a0.Xb.Zl.length : Int)) then (gd [decide (0 ≤ p1), decide (p1 < (a0.Xb.Zl.length : Int))] ((gc (!(((a0.Xb.Zl.getD p1.toNat default).Zu) == 0)) (M.ZP ((a0.Xb.Zl.getD p1.toNat default).GN) 1 65535)).bind fun r3 => bif (((a0.Xb.Zl.getD p1.toNat default).Zu) == 0) || (!r3) then (some (.inr (.inr 1))) else ((gc (!strEq ((a0.Xb.Zl.getD p1.toNat default).VQ) (⟨#[]⟩ : ByteArray)) (M.YX a0 ((a0.Xb.Zl.getD p1.toNat default).VQ))).bind fun r4 => (gc ((!((!strEq ((a0.Xb.Zl.getD p1.toNat default).VQ) (⟨#[]⟩ : ByteArray)) && (decide (r4 < 0)))) && (!strEq ((a0.Xb.Zl.getD p1.toNat default).YV) (⟨#[]⟩ : ByteArray))) (M.YX a0 ((a0.Xb.Zl.getD p1.toNat default).YV))).bind fun r5 => bif ((!strEq ((a0.Xb.Zl.getD p1.toNat default).VQ) (⟨#[]⟩ : ByteArray)) && (decide (r4 < 0))) || ((!strEq ((a0.Xb.Zl.getD p1.toNat default).YV) (⟨#[]⟩ : ByteArray)) && (decide (r5 < 0))) then (some (.inr (.inr 5))) else (gd [decide (0 ≤ p1), decide (p1 ≤ (a0.Xb.Zl.length : Int))] ((loopM (M.Yr a0 p1) 0).bind fun y8 => Sum.elim (fun _ => some (.inl (wr .i64 (p1 + 1)))) (fun y10 => some (.inr (.inr y10))) y8))))) else (some (.inr (.inl ())))
noncomputable def M.Y2 (a0 : Zf) : Option Int :=
  bif decide ((a0.Xb.Zl.length : Int) > 8) then (some 7) else ((loopM (M.YG a0) 0).bind fun y11 => Sum.elim (fun _ => some 0) (fun y13 => some y13) y11)
noncomputable def M.XL (a0 : List ZL) (a1 : ZL) (p1 : Int) : Option (Int ⊕ (Unit ⊕ Int)) :=
  bif decide (p1 < (a0.length : Int)) then (gd [decide (0 ≤ p1), decide (p1 < (a0.length : Int))] (bif ((a1.Zu == ((a0.getD p1.toNat default).Zu)) && ((a1.ZJ == ((a0.getD p1.toNat default).ZJ)) && true)) then (some (.inr (.inr p1))) else (some (.inl (wr .i64 (p1 + 1)))))) else (some (.inr (.inl ())))
noncomputable def M.XJ (a0 : List ZL) (a1 : ZL) : Option Int :=
  (loopM (M.XL a0 a1) 0).bind fun y3 => Sum.elim (fun _ => some (-1)) (fun y5 => some y5) y3
noncomputable def M.Xn (a0 : List ZL) (a1 : ZL) : Option Bool :=
  (M.XJ a0 a1).bind fun r1 => some (decide (r1 ≥ 0))
noncomputable def M.YJ (a0 : Z4) (p1 : Int) : Option (Int ⊕ (Unit ⊕ Int)) :=
  bif decide (p1 < (a0.Zt.length : Int)) then (gd [decide (0 ≤ p1), decide (p1 < (a0.Zt.length : Int))] ((M.QO (a0.Zt.getD p1.toNat default)).bind fun r3 => bif !r3 then (some (.inr (.inr 1))) else ((M.Xn ((a0.Zt.drop 0).take (p1.toNat - 0)) (a0.Zt.getD p1.toNat default)).bind fun r4 => gd [decide (0 ≤ p1), decide (p1 ≤ (a0.Zt.length : Int))] (bif r4 then (some (.inr (.inr 4))) else (some (.inl (wr .i64 (p1 + 1)))))))) else (some (.inr (.inl ())))
noncomputable def M.YK (a0 : Z4) (p8 : Int) (p11 : Int) : Option (Int ⊕ (Unit ⊕ Int)) :=
  bif decide (p11 < ((p8.toNat - 0 : Nat) : Int)) then (gd [decide (0 ≤ p11), decide (p11 < (((a0.Zr.drop 0).take (p8.toNat - 0)).length : Int))] (bif (((((((a0.Zr.drop 0).take (p8.toNat - 0)).getD p11.toNat default).Zp).Zu) == (((a0.Zr.getD p8.toNat default).Zp).Zu)) && (((((((a0.Zr.drop 0).take (p8.toNat - 0)).getD p11.toNat default).Zp).ZJ) == (((a0.Zr.getD p8.toNat default).Zp).ZJ)) && true)) then (some (.inr (.inr 4))) else (some (.inl (wr .i64 (p11 + 1)))))) else (some (.inr (.inl ())))
noncomputable def M.YL (a0 : Z4) (p8 : Int) : Option (Int ⊕ (Unit ⊕ Int)) :=
  bif decide (p8 < (a0.Zr.length : Int)) then (gd [decide (0 ≤ p8), decide (p8 < (a0.Zr.length : Int))] ((M.QO ((a0.Zr.getD p8.toNat default).Zp)).bind fun r10 => bif !r10 then (some (.inr (.inr 1))) else (gd [decide (0 ≤ p8), decide (p8 ≤ (a0.Zr.length : Int))] ((loopM (M.YK a0 p8) 0).bind fun y13 => Sum.elim (fun _ => some (.inl (wr .i64 (p8 + 1)))) (fun y15 => some (.inr (.inr y15))) y13)))) else (some (.inr (.inl ())))
noncomputable def M.YM (a0 : Z4) (p19 : Int) (p23 : Int) : Option (Int ⊕ (Unit ⊕ Int)) :=
  bif decide (p23 < ((p19.toNat - 0 : Nat) : Int)) then (gd [decide (0 ≤ p23), decide (p23 < (((a0.Zo.drop 0).take (p19.toNat - 0)).length : Int))] (bif (((((((a0.Zo.drop 0).take (p19.toNat - 0)).getD p23.toNat default).Zp).Zu) == (((a0.Zo.getD p19.toNat default).Zp).Zu)) && (((((((a0.Zo.drop 0).take (p19.toNat - 0)).getD p23.toNat default).Zp).ZJ) == (((a0.Zo.getD p19.toNat default).Zp).ZJ)) && true)) then (some (.inr (.inr 4))) else (some (.inl (wr .i64 (p23 + 1)))))) else (some (.inr (.inl ())))
noncomputable def M.YN (a0 : Z4) (p19 : Int) : Option (Int ⊕ (Unit ⊕ Int)) :=
  bif decide (p19 < (a0.Zo.length : Int)) then (gd [decide (0 ≤ p19), decide (p19 < (a0.Zo.length : Int))] ((M.QO ((a0.Zo.getD p19.toNat default).Zp)).bind fun r21 => (gc (!(!r21)) (M.QO ((a0.Zo.getD p19.toNat default).fIf))).bind fun r22 => bif (!r21) || (!r22) then (some (.inr (.inr 1))) else (bif (((((a0.Zo.getD p19.toNat default).Zp).Zu) == (((a0.Zo.getD p19.toNat default).fIf).Zu)) && (((((a0.Zo.getD p19.toNat default).Zp).ZJ) == (((a0.Zo.getD p19.toNat default).fIf).ZJ)) && true)) then (some (.inr (.inr 6))) else (gd [decide (0 ≤ p19), decide (p19 ≤ (a0.Zo.length : Int))] ((loopM (M.YM a0 p19) 0).bind fun y25 => Sum.elim (fun _ => some (.inl (wr .i64 (p19 + 1)))) (fun y27 => some (.inr (.inr y27))) y25))))) else (some (.inr (.inl ())))
noncomputable def M.QE (a0 : Z4) : Option Int :=
  bif decide ((a0.Zt.length : Int) > 8) then (some 7) else ((loopM (M.YJ a0) 0).bind fun y5 => Sum.elim (fun _ => bif decide ((a0.Zr.length : Int) > 8) then (some 7) else ((loopM (M.YL a0) 0).bind fun y16 => Sum.elim (fun _ => bif decide ((a0.Zo.length : Int) > 8) then (some 7) else ((loopM (M.YN a0) 0).bind fun y28 => Sum.elim (fun _ => some 0) (fun y30 => some y30) y28)) (fun y18 => some y18) y16)) (fun y7 => some y7) y5)
noncomputable def M.YO (a0 : Zf) : Option Int :=
  bif !a0.Xb.Wr then (bif ((((((a0.Xb.X4 != 0) || (a0.Xb.X5 != 0)) || (decide ((a0.Xb.Zl.length : Int) > 0))) || (decide ((a0.Xb.Zt.length : Int) > 0))) || (decide ((a0.Xb.Zr.length : Int) > 0))) || (decide ((a0.Xb.Zo.length : Int) > 0))) || (decide ((a0.Xb.Zv.length : Int) > 0)) then (some 1) else (some 0)) else ((gc (!(a0.GN == 0)) (M.ZP a0.Xb.X4 1 255)).bind fun r1 => (gc (!((a0.GN == 0) || (!r1))) (M.ZP a0.Xb.X5 1 255)).bind fun r2 => bif ((a0.GN == 0) || (!r1)) || (!r2) then (some 1) else ((M.Y2 a0).bind fun r3 => bif r3 != 0 then (some r3) else ((M.QE a0.Xb).bind fun r4 => bif r4 != 0 then (some r4) else ((M.YB a0 a0.Xb.Zv 5 0 16777215 0).bind fun r5 => some r5))))
noncomputable def M.QX (a0 : Zf) : Option Int :=
  (M.Wf a0.ZW).bind fun r1 => bif !r1 then (some 3) else ((M.ZP a0.GN 0 65535).bind fun r2 => bif !r2 then (some 1) else (gd [decide (0 ≤ 0), decide (0 < (10 : Int))] ((M.YH a0).bind fun r3 => bif r3 != 0 then (some r3) else (gd [decide (0 ≤ 1), decide (1 < (10 : Int))] ((M.YA a0).bind fun r4 => bif r4 != 0 then (some r4) else (gd [decide (0 ≤ 2), decide (2 < (10 : Int))] ((M.YY a0).bind fun r5 => bif r5 != 0 then (some r5) else (gd [decide (0 ≤ 3), decide (3 < (10 : Int))] ((M.JH a0).bind fun r6 => bif r6 != 0 then (some r6) else (gd [decide (0 ≤ 4), decide (4 < (10 : Int))] ((M.JX a0).bind fun r7 => bif r7 != 0 then (some r7) else (gd [decide (0 ≤ 5), decide (5 < (10 : Int))] ((M.Jb a0).bind fun r8 => bif r8 != 0 then (some r8) else (gd [decide (0 ≤ 6), decide (6 < (10 : Int))] ((M.QD a0).bind fun r9 => bif r9 != 0 then (some r9) else (gd [decide (0 ≤ 7), decide (7 < (10 : Int))] ((M.Y1 a0).bind fun r10 => bif r10 != 0 then (some r10) else (gd [decide (0 ≤ 8), decide (8 < (10 : Int))] ((M.Ye a0).bind fun r11 => bif r11 != 0 then (some r11) else (gd [decide (0 ≤ 9), decide (9 < (10 : Int))] ((M.YO a0).bind fun r12 => bif r12 != 0 then (some r12) else (some 0))))))))))))))))))))))
noncomputable def M.Y3 (a0 : Zy) (b0 : Zf) : Option Bool :=
  (gc (a0.ZJ != 0) (M.J5 b0 a0.Zu)).bind fun r1 => some ((a0.ZJ != 0) && (decide (r1 ≥ 0)))
noncomputable def M.ZH (a0 : List Zy) (a1c0 : Zf) (p1 : Int) : Option (Int ⊕ (Unit ⊕ Int)) :=
  bif decide (p1 < (a0.length : Int)) then ((M.Y3 (a0.getD p1.toNat default) a1c0).bind fun r3 => gd [decide (0 ≤ p1), decide (p1 < (a0.length : Int))] (bif r3 then (some (.inr (.inr p1))) else (some (.inl (wr .i64 (p1 + 1)))))) else (some (.inr (.inl ())))
noncomputable def M.ZN (a0 : List Zy) (a1c0 : Zf) : Option Int :=
  (loopM (M.ZH a0 a1c0) 0).bind fun y4 => Sum.elim (fun _ => some (-1)) (fun y6 => some y6) y4
noncomputable def M.ZI (a0 : List Zy) (a1c0 : Zf) : Option Bool :=
  (M.ZN a0 a1c0).bind fun r1 => some (decide (r1 ≥ 0))
noncomputable def M.Jc (a0 : Zf) (a1 : Zf) : Option Bool :=
  (M.ZI a1.Zc a0).bind fun r1 => some r1
noncomputable def M.JY (a0 : ZX) (p1 : Int) (p4 : Int) : Option (Int ⊕ (Unit ⊕ Int)) :=
  bif decide (p4 < ((p1.toNat - 0 : Nat) : Int)) then (gd [decide (0 ≤ p4), decide (p4 < (((a0.Zd.drop 0).take (p1.toNat - 0)).length : Int))] ((gc (!(strEq ((((a0.Zd.drop 0).take (p1.toNat - 0)).getD p4.toNat default).ZW) ((a0.Zd.getD p1.toNat default).ZW))) (M.Jc (((a0.Zd.drop 0).take (p1.toNat - 0)).getD p4.toNat default) (a0.Zd.getD p1.toNat default))).bind fun r6 => bif (strEq ((((a0.Zd.drop 0).take (p1.toNat - 0)).getD p4.toNat default).ZW) ((a0.Zd.getD p1.toNat default).ZW)) || r6 then (some (.inr (.inr 4))) else (some (.inl (wr .i64 (p4 + 1)))))) else (some (.inr (.inl ())))
noncomputable def M.Vu (a0 : ZX) (p1 : Int) : Option (Int ⊕ (Unit ⊕ Int)) :=
  bif decide (p1 < (a0.Zd.length : Int)) then (gd [decide (0 ≤ p1), decide (p1 < (a0.Zd.length : Int))] ((M.QX (a0.Zd.getD p1.toNat default)).bind fun r3 => bif r3 != 0 then (some (.inr (.inr r3))) else (gd [decide (0 ≤ p1), decide (p1 ≤ (a0.Zd.length : Int))] ((loopM (M.JY a0 p1) 0).bind fun y7 => Sum.elim (fun _ => some (.inl (wr .i64 (p1 + 1)))) (fun y9 => some (.inr (.inr y9))) y7)))) else (some (.inr (.inl ())))
noncomputable def M.QJ (a0 : ZX) : Option Int :=
  bif decide ((a0.Zd.length : Int) > 8) then (some 7) else ((loopM (M.Vu a0) 0).bind fun y10 => Sum.elim (fun _ => some 0) (fun y12 => some y12) y10)
noncomputable def M.QY (i : Int) (p : (List Zk) × (List (Z7 × Int)) × Int) (q : (List Zk) × (List (Z7 × Int)) × Int) : Option (((List Zk) × (List (Z7 × Int)) × Int) ⊕ ((List Zk) × (List (Z7 × Int)))) :=
  gd [decide (0 ≤ q.2.2), decide (q.2.2 < (q.1.length : Int)), decide (((q.1.getD (0 + q.2.2.toNat) default).Xf.length + 1) * 16 ≤ 140737488355328)] (some (.inl (q.1.set (0 + q.2.2.toNat) ⟨(q.1.getD (0 + q.2.2.toNat) default).Zp, (q.1.getD (0 + q.2.2.toNat) default).Xr, (q.1.getD (0 + q.2.2.toNat) default).Xf ++ [⟨i, p.2.2⟩]⟩, q.2.1, wr .i64 (p.2.2 + 1))))
noncomputable def M.QR (a0 : ZX) (i : Int) (p : (List Zk) × (List (Z7 × Int)) × Int) : Option (((List Zk) × (List (Z7 × Int)) × Int) ⊕ ((List Zk) × (List (Z7 × Int)))) :=
  bif decide (p.2.2 < (((a0.Zd.getD i.toNat default).Zc).length : Int)) then (gd [decide (0 ≤ p.2.2), decide (p.2.2 < (((a0.Zd.getD i.toNat default).Zc).length : Int))] (bif (((a0.Zd.getD i.toNat default).Zc.getD p.2.2.toNat default).ZJ == 0) || ((a0.Zd.getD i.toNat default).Zc.getD p.2.2.toNat default).K3 then (some (.inl (p.1, p.2.1, wr .i64 (p.2.2 + 1)))) else ((M.YT ((a0.Zd.getD i.toNat default).Zc.getD p.2.2.toNat default).Zu ((a0.Zd.getD i.toNat default).Zc.getD p.2.2.toNat default).ZJ).bind fun r => bif !(lkM (topoKeyEq ⟨r, ((a0.Zd.getD i.toNat default).Zc.getD p.2.2.toNat default).Xr⟩) p.2.1).2 then (gd [decide ((p.1.length + 1) * 48 ≤ 140737488355328)] (M.QY i p (p.1 ++ [⟨r, ((a0.Zd.getD i.toNat default).Zc.getD p.2.2.toNat default).Xr, []⟩], p.2.1 ++ [(⟨r, ((a0.Zd.getD i.toNat default).Zc.getD p.2.2.toNat default).Xr⟩, (p.1.length : Int))], (p.1.length : Int)))) else (M.QY i p (p.1, p.2.1, (lkM (topoKeyEq ⟨r, ((a0.Zd.getD i.toNat default).Zc.getD p.2.2.toNat default).Xr⟩) p.2.1).1))))) else (some (.inr (p.1, p.2.1)))
noncomputable def M.Jj (a0 : ZX) (p : (List Zk) × (List (Z7 × Int)) × Int) : Option (((List Zk) × (List (Z7 × Int)) × Int) ⊕ (List Zk)) :=
  bif decide (p.2.2 < (a0.Zd.length : Int)) then (gd [decide (0 ≤ p.2.2), decide (p.2.2 < (a0.Zd.length : Int))] ((loopM (M.QR a0 p.2.2) (p.1, p.2.1, 0)).bind fun y => some (.inl (y.1, y.2, wr .i64 (p.2.2 + 1))))) else (some (.inr p.1))
noncomputable def M.V4 (a0 : ZX) : Option (List Zk) :=
  (loopM (M.Jj a0) ([], [], 0)).bind fun y => some y
noncomputable def M.Qv (a0 : Int) : Option Bool :=
  some (a0 != a0)
noncomputable def M.QF (a0 : Int) (a1 : Int) : Option Int :=
  (M.Qv a0).bind fun r1 => (M.Qv a1).bind fun r2 => bif r1 then (bif r2 then (some 0) else (some (-1))) else (bif r2 then (some 1) else (bif decide (a0 < a1) then (some (-1)) else (bif decide (a0 > a1) then (some 1) else (some 0))))
noncomputable def M.JN (a0 : Int) : Option Bool :=
  some (a0 != a0)
noncomputable def M.QS (a0 : Int) (a1 : Int) : Option Int :=
  (M.JN a0).bind fun r1 => (M.JN a1).bind fun r2 => bif r1 then (bif r2 then (some 0) else (some (-1))) else (bif r2 then (some 1) else (bif decide (a0 < a1) then (some (-1)) else (bif decide (a0 > a1) then (some 1) else (some 0))))
noncomputable def M.V5 (a0 : ZL) (a1 : ZL) : Option Int :=
  (M.QF a0.Zu a1.Zu).bind fun r1 => bif r1 != 0 then (some r1) else ((M.QS a0.ZJ a1.ZJ).bind fun r2 => some r2)
noncomputable def M.Jv (a0 : List Int) (p1 : Int) : Option (Int ⊕ (Unit ⊕ Int)) :=
  bif decide (p1 < (a0.length : Int)) then (gd [decide (0 ≤ p1), decide (p1 < (a0.length : Int))] (bif (a0.getD p1.toNat default) != 0 then (some (.inr (.inr (a0.getD p1.toNat default)))) else (some (.inl (wr .i64 (p1 + 1)))))) else (some (.inr (.inl ())))
noncomputable def M.WM (a0 : List Int) : Option Int :=
  (loopM (M.Jv a0) 0).bind fun y3 => Sum.elim (fun _ => some 0) (fun y5 => some y5) y3
noncomputable def M.VC (a0 : Zk) (a1 : Zk) : Option Int :=
  (M.V5 a0.Zp a1.Zp).bind fun r1 => (M.QS a0.Xr a1.Xr).bind fun r2 => (M.WM ([r1, r2] : List Int)).bind fun r3 => some r3
noncomputable def M.Xw (a0 : List Zk) : Option (List Zk) :=
  sortU M.VC a0
noncomputable def M.JO (p5 : (List Int) × Int) (p7 : (List Int)) : Option (((List Int) × Int) ⊕ (List Int)) :=
  some (.inl (p7, wr .i64 (p5.2 + 1)))
noncomputable def M.J6 (r3 : (List Zk)) (p5 : (List Int) × Int) : Option (((List Int) × Int) ⊕ (List Int)) :=
  bif decide (p5.2 < (r3.length : Int)) then (gd [decide (0 ≤ p5.2), decide (p5.2 < (r3.length : Int))] (bif decide ((((r3.getD p5.2.toNat default).Xf).length : Int) ≥ 2) then (gd [decide ((p5.1.length + 1) * 8 ≤ 140737488355328)] (M.JO p5 (p5.1 ++ [p5.2]))) else (M.JO p5 p5.1))) else (some (.inr p5.1))
noncomputable def M.Wg (a0 : ZX) : Option (Qu × Int) :=
  (M.QJ a0).bind fun r1 => bif r1 != 0 then (some ((⟨([] : List Zk), ([] : List Int)⟩ : Qu), r1)) else ((M.V4 a0).bind fun r2 => (M.Xw r2).bind fun r3 => gd [decide (r3.length = r2.length)] ((loopM (M.J6 r3) (([] : List Int), 0)).bind fun y8 => bif decide ((y8.length : Int) > 12) then (some ((⟨([] : List Zk), ([] : List Int)⟩ : Qu), 7)) else (some ((⟨r3, y8⟩ : Qu), 0))))
noncomputable def M.Vj (a0 : Int) : Option Bool :=
  some (((decide (a0 ≥ 97)) && (decide (a0 ≤ 122))) || ((decide (a0 ≥ 65)) && (decide (a0 ≤ 90))))
noncomputable def M.V6 (a0 : ByteArray) (p2 : Int) : Option (Int ⊕ (Unit ⊕ Bool)) :=
  bif decide (p2 < (a0.size : Int)) then (gd [decide (0 ≤ p2), decide (p2 < (a0.size : Int))] ((M.Vj (byteAt a0 p2)).bind fun r4 => bif (((((!r4) && (!((decide ((byteAt a0 p2) ≥ 48)) && (decide ((byteAt a0 p2) ≤ 57))))) && ((byteAt a0 p2) != 45)) && ((byteAt a0 p2) != 95)) && ((byteAt a0 p2) != 47)) && ((byteAt a0 p2) != 46) then (some (.inr (.inr false))) else (some (.inl (wr .i64 (p2 + 1)))))) else (some (.inr (.inl ())))
noncomputable def M.Je (a0 : ByteArray) : Option Bool :=
  (gc (!((decide ((a0.size : Int) < 1)) || (decide ((a0.size : Int) > 15)))) (M.Vj (byteAt a0 0))).bind fun r1 => gd [guardB (!((decide ((a0.size : Int) < 1)) || (decide ((a0.size : Int) > 15)))) (decide (0 ≤ 0)), guardB (!((decide ((a0.size : Int) < 1)) || (decide ((a0.size : Int) > 15)))) (decide (0 < (a0.size : Int)))] (bif ((decide ((a0.size : Int) < 1)) || (decide ((a0.size : Int) > 15))) || (!r1) then (some false) else ((loopM (M.V6 a0) 1).bind fun y5 => Sum.elim (fun _ => some true) (fun y7 => some y7) y5))
noncomputable def M.Zz (a0 : Int) (a1 : Int) (a2 : Int) : Option Bool :=
  some ((decide (a1 ≤ a0)) && (decide (a0 ≤ a2)))
noncomputable def M.GO (p1 : Int × Int) (p3 : Int) : Option ((Int × Int) ⊕ Int) :=
  some (.inl (p3, wr .i64 (p1.2 + 1)))
noncomputable def M.Uw (a0 : Int) (p1 : Int × Int) : Option ((Int × Int) ⊕ Int) :=
  bif decide (p1.2 < 32) then (bif decide (p1.2 < a0) then (gd [decide (0 ≤ (wr .u64 (wr .i64 (31 - p1.2))))] (M.GO p1 (bitD .or .u32 p1.1 (wr .u32 (1 * 2 ^ min (wr .u64 (wr .i64 (31 - p1.2))).toNat 32))))) else (M.GO p1 p1.1)) else (some (.inr p1.1))
noncomputable def M.Vp (a0 : Int) : Option Int :=
  (loopM (M.Uw a0) (0, 0)).bind fun y4 => some y4
noncomputable def M.QZ (a0 : Int) (a1 : Int) : Option ZL :=
  (M.Vp (if 0 > (if 32 < a1 then 32 else a1) then 0 else (if 32 < a1 then 32 else a1))).bind fun r1 => some (⟨bitD .and .u32 a0 r1, if 0 > (if 32 < a1 then 32 else a1) then 0 else (if 32 < a1 then 32 else a1)⟩ : ZL)
noncomputable def M.Wm (a0 : ZL) (a1 : Int) : Option Bool :=
  (M.Vp a0.ZJ).bind fun r1 => some ((bitD .and .u32 a1 r1) == a0.Zu)
noncomputable def M.Wu (a0 : ZL) (a1 : ZL) : Option Bool :=
  (gc (decide (a0.ZJ ≤ a1.ZJ)) (M.Wm a0 a1.Zu)).bind fun r1 => some ((decide (a0.ZJ ≤ a1.ZJ)) && r1)
noncomputable def M.J7 (a0 : ZL) (a1 : ZL) : Option Bool :=
  (M.Wu a0 a1).bind fun r1 => (gc (!r1) (M.Wu a1 a0)).bind fun r2 => some (r1 || r2)
noncomputable def M.Jd (a0 : List Zy) (p1 : Int) (p4 : Int) : Option (Int ⊕ (Unit ⊕ Int)) :=
  bif decide (p4 < p1) then (gd [decide (0 ≤ p4), decide (p4 < (a0.length : Int))] (bif strEq ((a0.getD p4.toNat default).ZW) ((a0.getD p1.toNat default).ZW) then (some (.inr (.inr 4))) else (some (.inl (wr .i64 (p4 + 1)))))) else (some (.inr (.inl ())))
noncomputable def M.Qi (a0 : List Zy) (p1 : Int) (p14 : Int) : Option (Int ⊕ (Unit ⊕ Int)) :=
  bif decide (p14 < p1) then ((gc ((((a0.getD p1.toNat default).ZJ) != 0) && (((a0.getD p14.toNat default).ZJ) != 0)) (M.QZ ((a0.getD p1.toNat default).Zu) ((a0.getD p1.toNat default).ZJ))).bind fun r16 => (gc ((((a0.getD p1.toNat default).ZJ) != 0) && (((a0.getD p14.toNat default).ZJ) != 0)) (M.QZ ((a0.getD p14.toNat default).Zu) ((a0.getD p14.toNat default).ZJ))).bind fun r17 => (gc ((((a0.getD p1.toNat default).ZJ) != 0) && (((a0.getD p14.toNat default).ZJ) != 0)) (M.J7 r16 r17)).bind fun r18 => gd [guardB (((a0.getD p1.toNat default).ZJ) != 0) (decide (0 ≤ p14)), guardB (((a0.getD p1.toNat default).ZJ) != 0) (decide (p14 < (a0.length : Int))), guardB ((((a0.getD p1.toNat default).ZJ) != 0) && (((a0.getD p14.toNat default).ZJ) != 0)) (decide (0 ≤ p14)), guardB ((((a0.getD p1.toNat default).ZJ) != 0) && (((a0.getD p14.toNat default).ZJ) != 0)) (decide (p14 < (a0.length : Int))), guardB ((((a0.getD p1.toNat default).ZJ) != 0) && (((a0.getD p14.toNat default).ZJ) != 0)) (decide (0 ≤ p14)), guardB ((((a0.getD p1.toNat default).ZJ) != 0) && (((a0.getD p14.toNat default).ZJ) != 0)) (decide (p14 < (a0.length : Int)))] (bif ((((a0.getD p1.toNat default).ZJ) != 0) && (((a0.getD p14.toNat default).ZJ) != 0)) && r18 then (some (.inr (.inr 6))) else (some (.inl (wr .i64 (p14 + 1)))))) else (some (.inr (.inl ())))
noncomputable def M.QG (a0 : List Zy) (p1 : Int) : Option (Int ⊕ (Unit ⊕ Int)) :=
  bif decide (p1 < (a0.length : Int)) then (gd [decide (0 ≤ p1), decide (p1 < (a0.length : Int))] ((M.Je ((a0.getD p1.toNat default).ZW)).bind fun r3 => bif !r3 then (some (.inr (.inr 3))) else ((loopM (M.Jd a0 p1) 0).bind fun y6 => Sum.elim (fun _ => (M.Zz ((a0.getD p1.toNat default).ZJ) 0 32).bind fun r9 => (gc (!(!r9)) (M.Zz ((a0.getD p1.toNat default).Xr) 0 4094)).bind fun r10 => (gc (!((!r9) || (!r10))) (M.Zz ((a0.getD p1.toNat default).Rw) 0 2)).bind fun r11 => bif ((!r9) || (!r10)) || (!r11) then (some (.inr (.inr 1))) else (bif ((((a0.getD p1.toNat default).ZJ) == 0) && (((((((((a0.getD p1.toNat default).Zu) != 0) || (((a0.getD p1.toNat default).Xr) != 0)) || (((a0.getD p1.toNat default).Rw) != 0)) || ((a0.getD p1.toNat default).Yi)) || ((a0.getD p1.toNat default).YC)) || (!strEq ((a0.getD p1.toNat default).VQ) (⟨#[]⟩ : ByteArray))) || (!strEq ((a0.getD p1.toNat default).YV) (⟨#[]⟩ : ByteArray)))) || ((((a0.getD p1.toNat default).ZJ) != 0) && (((a0.getD p1.toNat default).Zu) == 0)) then (some (.inr (.inr 1))) else ((gc ((a0.getD p1.toNat default).Yi) (M.Zz ((a0.getD p1.toNat default).JV) 0 255)).bind fun r12 => (gc (((a0.getD p1.toNat default).Yi) && !(!r12)) (M.Zz ((a0.getD p1.toNat default).K4) 1 65535)).bind fun r13 => bif (((a0.getD p1.toNat default).Yi) && ((!r12) || (!r13))) || ((!((a0.getD p1.toNat default).Yi)) && ((((a0.getD p1.toNat default).JV) != 0) || (((a0.getD p1.toNat default).K4) != 0))) then (some (.inr (.inr 1))) else ((loopM (M.Qi a0 p1) 0).bind fun y19 => Sum.elim (fun _ => some (.inl (wr .i64 (p1 + 1)))) (fun y21 => some (.inr (.inr y21))) y19)))) (fun y8 => some (.inr (.inr y8))) y6))) else (some (.inr (.inl ())))
noncomputable def M.Jk (a0 : List Zy) : Option Int :=
  bif decide ((a0.length : Int) > 8) then (some 7) else ((loopM (M.QG a0) 0).bind fun y22 => Sum.elim (fun _ => some 0) (fun y24 => some y24) y22)
noncomputable def M.YP (a0 : ZL) : Option Bool :=
  (gc ((decide (a0.ZJ ≥ 0)) && (decide (a0.ZJ ≤ 32))) (M.Vp a0.ZJ)).bind fun r1 => some (((decide (a0.ZJ ≥ 0)) && (decide (a0.ZJ ≤ 32))) && ((bitD .andNot .u32 a0.Zu r1) == 0))
noncomputable def M.Qs (a0 : UY) : Option Bool :=
  (M.YP a0.Zp).bind fun r1 => some (((r1 && (decide (a0.Zp.ZJ ≤ a0.ZbR))) && (decide (a0.ZbR ≤ a0.ZbS))) && (decide (a0.ZbS ≤ 32)))
noncomputable def M.QM (a0 : List Z1) (p1 : Int) (p4 : Int) : Option (Int ⊕ (Unit ⊕ Int)) :=
  bif decide (p4 < p1) then (gd [decide (0 ≤ p4), decide (p4 < (a0.length : Int)), decide (0 ≤ p1), decide (p1 < (a0.length : Int))] (bif strEq ((a0.getD p4.toNat default).ZW) ((a0.getD p1.toNat default).ZW) then (some (.inr (.inr 4))) else (some (.inl (wr .i64 (p4 + 1)))))) else (some (.inr (.inl ())))
noncomputable def M.Qk (a0 : List Z1) (p1 : Int) (p9 : Int) : Option (Int ⊕ (Unit ⊕ Int)) :=
  gd [decide (0 ≤ p1), decide (p1 < (a0.length : Int))] (bif decide (p9 < (((a0.getD p1.toNat default).Xz).length : Int)) then ((M.Qs (((a0.getD p1.toNat default).Xz).getD p9.toNat default)).bind fun r11 => gd [decide (0 ≤ p1), decide (p1 < (a0.length : Int)), decide (0 ≤ p9), decide (p9 < (((a0.getD p1.toNat default).Xz).length : Int))] (bif !r11 then (some (.inr (.inr 1))) else (some (.inl (wr .i64 (p9 + 1)))))) else (some (.inr (.inl ()))))
noncomputable def M.Ql (a0 : List Z1) (p1 : Int) : Option (Int ⊕ (Unit ⊕ Int)) :=
  bif decide (p1 < (a0.length : Int)) then ((M.Je ((a0.getD p1.toNat default).ZW)).bind fun r3 => gd [decide (0 ≤ p1), decide (p1 < (a0.length : Int))] (bif !r3 then (some (.inr (.inr 3))) else ((loopM (M.QM a0 p1) 0).bind fun y6 => Sum.elim (fun _ => gd [decide (0 ≤ p1), decide (p1 < (a0.length : Int))] (bif (((a0.getD p1.toNat default).Xz).length : Int) == 0 then (some (.inr (.inr 1))) else (gd [decide (0 ≤ p1), decide (p1 < (a0.length : Int))] (bif decide ((((a0.getD p1.toNat default).Xz).length : Int) > 16) then (some (.inr (.inr 7))) else ((loopM (M.Qk a0 p1) 0).bind fun y12 => Sum.elim (fun _ => some (.inl (wr .i64 (p1 + 1)))) (fun y14 => some (.inr (.inr y14))) y12))))) (fun y8 => some (.inr (.inr y8))) y6))) else (some (.inr (.inl ())))
noncomputable def M.QT (a0 : List Z1) : Option Int :=
  bif decide ((a0.length : Int) > 8) then (some 7) else ((loopM (M.Ql a0) 0).bind fun y15 => Sum.elim (fun _ => some 0) (fun y17 => some y17) y15)
noncomputable def M.JE (a0 : Zf) (a1 : ByteArray) (p1 : Int) : Option (Int ⊕ (Unit ⊕ Int)) :=
  bif decide (p1 < (a0.Xk.length : Int)) then (gd [decide (0 ≤ p1), decide (p1 < (a0.Xk.length : Int))] (bif strEq ((a0.Xk.getD p1.toNat default).ZW) a1 then (some (.inr (.inr p1))) else (some (.inl (wr .i64 (p1 + 1)))))) else (some (.inr (.inl ())))
noncomputable def M.Qy (a0 : Zf) (a1 : ByteArray) : Option Int :=
  (loopM (M.JE a0 a1) 0).bind fun y3 => Sum.elim (fun _ => some (-1)) (fun y5 => some y5) y3
noncomputable def M.Jw (a0 : Zf) (p1 : Int) (p4 : Int) : Option (Int ⊕ (Unit ⊕ Int)) :=
  bif decide (p4 < p1) then (gd [decide (0 ≤ p4), decide (p4 < (a0.Z8.length : Int)), decide (0 ≤ p1), decide (p1 < (a0.Z8.length : Int))] (bif strEq ((a0.Z8.getD p4.toNat default).ZW) ((a0.Z8.getD p1.toNat default).ZW) then (some (.inr (.inr 4))) else (some (.inl (wr .i64 (p4 + 1)))))) else (some (.inr (.inl ())))
noncomputable def M.Q0 (a0 : Zf) (p1 : Int) (p9 : Int) : Option (Int ⊕ (Unit ⊕ Int)) :=
  gd [decide (0 ≤ p1), decide (p1 < (a0.Z8.length : Int))] (bif decide (p9 < (((a0.Z8.getD p1.toNat default).Xl).length : Int)) then (gd [decide (0 ≤ p1), decide (p1 < (a0.Z8.length : Int)), decide (0 ≤ p9), decide (p9 < (((a0.Z8.getD p1.toNat default).Xl).length : Int))] ((gc (!strEq ((((a0.Z8.getD p1.toNat default).Xl).getD p9.toNat default).QP) (⟨#[]⟩ : ByteArray)) (M.Qy a0 ((((a0.Z8.getD p1.toNat default).Xl).getD p9.toNat default).QP))).bind fun r11 => bif (!strEq ((((a0.Z8.getD p1.toNat default).Xl).getD p9.toNat default).QP) (⟨#[]⟩ : ByteArray)) && (decide (r11 < 0)) then (some (.inr (.inr 5))) else ((M.Zz ((((a0.Z8.getD p1.toNat default).Xl).getD p9.toNat default).US) (-1) 65535).bind fun r12 => (gc (!(!r12)) (M.Zz ((((a0.Z8.getD p1.toNat default).Xl).getD p9.toNat default).GL) (-1) 65535)).bind fun r13 => (gc (!((!r12) || (!r13))) (M.Zz ((((a0.Z8.getD p1.toNat default).Xl).getD p9.toNat default).WL) (-1) 16777215)).bind fun r14 => (gc (!(((!r12) || (!r13)) || (!r14))) (M.Zz ((((a0.Z8.getD p1.toNat default).Xl).getD p9.toNat default).UZ) (-1) 1000000)).bind fun r15 => (gc (!((((!r12) || (!r13)) || (!r14)) || (!r15))) (M.Zz ((((a0.Z8.getD p1.toNat default).Xl).getD p9.toNat default).U0) 0 8)).bind fun r16 => bif ((((!r12) || (!r13)) || (!r14)) || (!r15)) || (!r16) then (some (.inr (.inr 1))) else (some (.inl (wr .i64 (p9 + 1))))))) else (some (.inr (.inl ()))))
noncomputable def M.Q1 (a0 : Zf) (p1 : Int) : Option (Int ⊕ (Unit ⊕ Int)) :=
  bif decide (p1 < (a0.Z8.length : Int)) then ((M.Je ((a0.Z8.getD p1.toNat default).ZW)).bind fun r3 => gd [decide (0 ≤ p1), decide (p1 < (a0.Z8.length : Int))] (bif !r3 then (some (.inr (.inr 3))) else ((loopM (M.Jw a0 p1) 0).bind fun y6 => Sum.elim (fun _ => gd [decide (0 ≤ p1), decide (p1 < (a0.Z8.length : Int))] (bif (((a0.Z8.getD p1.toNat default).Xl).length : Int) == 0 then (some (.inr (.inr 1))) else (gd [decide (0 ≤ p1), decide (p1 < (a0.Z8.length : Int))] (bif decide ((((a0.Z8.getD p1.toNat default).Xl).length : Int) > 8) then (some (.inr (.inr 7))) else ((loopM (M.Q0 a0 p1) 0).bind fun y17 => Sum.elim (fun _ => some (.inl (wr .i64 (p1 + 1)))) (fun y19 => some (.inr (.inr y19))) y17))))) (fun y8 => some (.inr (.inr y8))) y6))) else (some (.inr (.inl ())))
noncomputable def M.JI (a0 : Zf) : Option Int :=
  bif decide ((a0.Z8.length : Int) > 8) then (some 7) else ((loopM (M.Q1 a0) 0).bind fun y20 => Sum.elim (fun _ => some 0) (fun y22 => some y22) y20)
noncomputable def M.V7 (a0 : JW) : Option Bool :=
  some (((decide (0 ≤ a0.Gc)) && (decide (a0.Gc ≤ a0.GM))) && (decide (a0.GM ≤ 65535)))
noncomputable def M.UH (a0 : JW) : Option Bool :=
  some ((a0.Gc == 0) && ((a0.GM == 65535) && true))
noncomputable def M.JZ (a0 : Zar) : Option Bool :=
  (M.Zz a0.Yb (-1) 255).bind fun r1 => (gc (!(((!r1) || ((bitD .and .u32 a0.Re.Zu a0.Re.Gb) != 0)) || ((bitD .and .u32 a0.Rf.Zu a0.Rf.Gb) != 0))) (M.V7 a0.Vm)).bind fun r2 => (gc (!((((!r1) || ((bitD .and .u32 a0.Re.Zu a0.Re.Gb) != 0)) || ((bitD .and .u32 a0.Rf.Zu a0.Rf.Gb) != 0)) || (!r2))) (M.V7 a0.Vn)).bind fun r3 => bif ((((!r1) || ((bitD .and .u32 a0.Re.Zu a0.Re.Gb) != 0)) || ((bitD .and .u32 a0.Rf.Zu a0.Rf.Gb) != 0)) || (!r2)) || (!r3) then (some false) else ((gc (!((a0.Yb == 6) || (a0.Yb == 17))) (M.UH a0.Vm)).bind fun r4 => (gc ((!((a0.Yb == 6) || (a0.Yb == 17))) && r4) (M.UH a0.Vn)).bind fun r5 => some (((a0.Yb == 6) || (a0.Yb == 17)) || (r4 && r5)))
noncomputable def M.QN (a0 : List WD) (p1 : Int) (p4 : Int) : Option (Int ⊕ (Unit ⊕ Int)) :=
  bif decide (p4 < p1) then (gd [decide (0 ≤ p4), decide (p4 < (a0.length : Int)), decide (0 ≤ p1), decide (p1 < (a0.length : Int))] (bif strEq ((a0.getD p4.toNat default).ZW) ((a0.getD p1.toNat default).ZW) then (some (.inr (.inr 4))) else (some (.inl (wr .i64 (p4 + 1)))))) else (some (.inr (.inl ())))
noncomputable def M.Qm (a0 : List WD) (p1 : Int) (p9 : Int) : Option (Int ⊕ (Unit ⊕ Int)) :=
  gd [decide (0 ≤ p1), decide (p1 < (a0.length : Int))] (bif decide (p9 < (((a0.getD p1.toNat default).Xz).length : Int)) then ((M.JZ (((a0.getD p1.toNat default).Xz).getD p9.toNat default)).bind fun r11 => gd [decide (0 ≤ p1), decide (p1 < (a0.length : Int)), decide (0 ≤ p9), decide (p9 < (((a0.getD p1.toNat default).Xz).length : Int))] (bif !r11 then (some (.inr (.inr 1))) else (some (.inl (wr .i64 (p9 + 1)))))) else (some (.inr (.inl ()))))
noncomputable def M.Qn (a0 : List WD) (p1 : Int) : Option (Int ⊕ (Unit ⊕ Int)) :=
  bif decide (p1 < (a0.length : Int)) then ((M.Je ((a0.getD p1.toNat default).ZW)).bind fun r3 => gd [decide (0 ≤ p1), decide (p1 < (a0.length : Int))] (bif !r3 then (some (.inr (.inr 3))) else ((loopM (M.QN a0 p1) 0).bind fun y6 => Sum.elim (fun _ => gd [decide (0 ≤ p1), decide (p1 < (a0.length : Int))] (bif (((a0.getD p1.toNat default).Xz).length : Int) == 0 then (some (.inr (.inr 1))) else (gd [decide (0 ≤ p1), decide (p1 < (a0.length : Int))] (bif decide ((((a0.getD p1.toNat default).Xz).length : Int) > 16) then (some (.inr (.inr 7))) else ((loopM (M.Qm a0 p1) 0).bind fun y12 => Sum.elim (fun _ => some (.inl (wr .i64 (p1 + 1)))) (fun y14 => some (.inr (.inr y14))) y12))))) (fun y8 => some (.inr (.inr y8))) y6))) else (some (.inr (.inl ())))
noncomputable def M.QU (a0 : List WD) : Option Int :=
  bif decide ((a0.length : Int) > 8) then (some 7) else ((loopM (M.Qn a0) 0).bind fun y15 => Sum.elim (fun _ => some 0) (fun y17 => some y17) y15)
noncomputable def M.WY (a0 : Zf) (a1 : ByteArray) (p1 : Int) : Option (Int ⊕ (Unit ⊕ Int)) :=
  bif decide (p1 < (a0.XO.length : Int)) then (gd [decide (0 ≤ p1), decide (p1 < (a0.XO.length : Int))] (bif strEq ((a0.XO.getD p1.toNat default).ZW) a1 then (some (.inr (.inr p1))) else (some (.inl (wr .i64 (p1 + 1)))))) else (some (.inr (.inl ())))
noncomputable def M.WZ (a0 : Zf) (a1 : ByteArray) : Option Int :=
  (loopM (M.WY a0 a1) 0).bind fun y3 => Sum.elim (fun _ => some (-1)) (fun y5 => some y5) y3
noncomputable def M.X3 (a0 : Zf) (p1 : Int) (p3 : Bool) : Option (Int ⊕ (Unit ⊕ Int)) :=
  bif !p3 then (some (.inr (.inr 1))) else ((gc (((a0.Xd.getD p1.toNat default).JT) == 2) (M.WZ a0 ((a0.Xd.getD p1.toNat default).QP))).bind fun r4 => bif (((a0.Xd.getD p1.toNat default).JT) == 2) && (decide (r4 < 0)) then (some (.inr (.inr 5))) else (some (.inl (wr .i64 (p1 + 1)))))
noncomputable def M.Y4 (a0 : Zf) (p1 : Int) : Option (Int ⊕ (Unit ⊕ Int)) :=
  bif decide (p1 < (a0.Xd.length : Int)) then (gd [decide (0 ≤ p1), decide (p1 < (a0.Xd.length : Int))] (bif ((a0.Xd.getD p1.toNat default).JT) == 1 then (M.X3 a0 p1 (((((a0.Xd.getD p1.toNat default).Qj) != 0) && (((a0.Xd.getD p1.toNat default).Yv) != 0)) && ((((a0.Xd.getD p1.toNat default).JT) == ((a0.Xd.getD p1.toNat default).JT)) && ((((a0.Xd.getD p1.toNat default).Qj) == ((a0.Xd.getD p1.toNat default).Qj)) && ((((a0.Xd.getD p1.toNat default).Yv) == ((a0.Xd.getD p1.toNat default).Yv)) && ((((a0.Xd.getD p1.toNat default).Yb) == 0) && ((((a0.Xd.getD p1.toNat default).QI) == 0) && ((((a0.Xd.getD p1.toNat default).Qe) == 0) && (strEq ((a0.Xd.getD p1.toNat default).QP) (⟨#[]⟩ : ByteArray) && ((((a0.Xd.getD p1.toNat default).Gc) == 0) && ((((a0.Xd.getD p1.toNat default).GM) == 0) && true))))))))))) else (bif ((a0.Xd.getD p1.toNat default).JT) == 2 then (M.X3 a0 p1 ((((((a0.Xd.getD p1.toNat default).Gc) != 0) && (decide (((a0.Xd.getD p1.toNat default).Gc) ≤ ((a0.Xd.getD p1.toNat default).GM)))) && (decide ((wr .u32 (((a0.Xd.getD p1.toNat default).GM) - ((a0.Xd.getD p1.toNat default).Gc))) < 8))) && ((((a0.Xd.getD p1.toNat default).JT) == ((a0.Xd.getD p1.toNat default).JT)) && ((((a0.Xd.getD p1.toNat default).Qj) == 0) && ((((a0.Xd.getD p1.toNat default).Yv) == 0) && ((((a0.Xd.getD p1.toNat default).Yb) == 0) && ((((a0.Xd.getD p1.toNat default).QI) == 0) && ((((a0.Xd.getD p1.toNat default).Qe) == 0) && (strEq ((a0.Xd.getD p1.toNat default).QP) ((a0.Xd.getD p1.toNat default).QP) && ((((a0.Xd.getD p1.toNat default).Gc) == ((a0.Xd.getD p1.toNat default).Gc)) && ((((a0.Xd.getD p1.toNat default).GM) == ((a0.Xd.getD p1.toNat default).GM)) && true))))))))))) else (bif ((a0.Xd.getD p1.toNat default).JT) == 3 then ((gc (((((a0.Xd.getD p1.toNat default).Qj) != 0) && (((a0.Xd.getD p1.toNat default).Yv) != 0)) && ((((a0.Xd.getD p1.toNat default).Yb) == 6) || (((a0.Xd.getD p1.toNat default).Yb) == 17))) (M.Zz ((a0.Xd.getD p1.toNat default).QI) 0 65535)).bind fun r5 => (gc ((((((a0.Xd.getD p1.toNat default).Qj) != 0) && (((a0.Xd.getD p1.toNat default).Yv) != 0)) && ((((a0.Xd.getD p1.toNat default).Yb) == 6) || (((a0.Xd.getD p1.toNat default).Yb) == 17))) && r5) (M.Zz ((a0.Xd.getD p1.toNat default).Qe) 0 65535)).bind fun r6 => M.X3 a0 p1 ((((((((((a0.Xd.getD p1.toNat default).Qj) != 0) && (((a0.Xd.getD p1.toNat default).Yv) != 0)) && ((((a0.Xd.getD p1.toNat default).Yb) == 6) || (((a0.Xd.getD p1.toNat default).Yb) == 17))) && r5) && r6) && (strEq ((a0.Xd.getD p1.toNat default).QP) (⟨#[]⟩ : ByteArray))) && (((a0.Xd.getD p1.toNat default).Gc) == 0)) && (((a0.Xd.getD p1.toNat default).GM) == 0))) else (M.X3 a0 p1 false))))) else (some (.inr (.inl ())))
noncomputable def M.Qz (a0 : Zf) : Option Int :=
  bif decide ((a0.Xd.length : Int) > 8) then (some 7) else ((loopM (M.Y4 a0) 0).bind fun y7 => Sum.elim (fun _ => some 0) (fun y9 => some y9) y7)
noncomputable def M.VD (a0 : Zf) (p1 : Int) : Option (Int ⊕ (Unit ⊕ Int)) :=
  bif decide (p1 < (a0.Zc.length : Int)) then (gd [decide (0 ≤ p1), decide (p1 < (a0.Zc.length : Int))] ((gc (!strEq ((a0.Zc.getD p1.toNat default).VQ) (⟨#[]⟩ : ByteArray)) (M.WZ a0 ((a0.Zc.getD p1.toNat default).VQ))).bind fun r3 => (gc ((!((!strEq ((a0.Zc.getD p1.toNat default).VQ) (⟨#[]⟩ : ByteArray)) && (decide (r3 < 0)))) && (!strEq ((a0.Zc.getD p1.toNat default).YV) (⟨#[]⟩ : ByteArray))) (M.WZ a0 ((a0.Zc.getD p1.toNat default).YV))).bind fun r4 => bif ((!strEq ((a0.Zc.getD p1.toNat default).VQ) (⟨#[]⟩ : ByteArray)) && (decide (r3 < 0))) || ((!strEq ((a0.Zc.getD p1.toNat default).YV) (⟨#[]⟩ : ByteArray)) && (decide (r4 < 0))) then (some (.inr (.inr 5))) else (some (.inl (wr .i64 (p1 + 1)))))) else (some (.inr (.inl ())))
noncomputable def M.V8 (a0 : Zf) : Option Int :=
  (loopM (M.VD a0) 0).bind fun y5 => Sum.elim (fun _ => some 0) (fun y7 => some y7) y5
noncomputable def M.VE (a0 : Zf) (a1 : Int) (p1 : Int) : Option (Int ⊕ (Unit ⊕ Int)) :=
  bif decide (p1 < (a0.Zc.length : Int)) then (gd [decide (0 ≤ p1), decide (p1 < (a0.Zc.length : Int)), guardB (((a0.Zc.getD p1.toNat default).ZJ) != 0) (decide (0 ≤ p1)), guardB (((a0.Zc.getD p1.toNat default).ZJ) != 0) (decide (p1 < (a0.Zc.length : Int)))] (bif (((a0.Zc.getD p1.toNat default).ZJ) != 0) && (((a0.Zc.getD p1.toNat default).Zu) == a1) then (some (.inr (.inr p1))) else (some (.inl (wr .i64 (p1 + 1)))))) else (some (.inr (.inl ())))
noncomputable def M.Q2 (a0 : Zf) (a1 : Int) : Option Int :=
  (loopM (M.VE a0 a1) 0).bind fun y3 => Sum.elim (fun _ => some (-1)) (fun y5 => some y5) y3
noncomputable def M.Jx (a0 : Zf) (a1 : ByteArray) (p1 : Int) : Option (Int ⊕ (Unit ⊕ Int)) :=
  bif decide (p1 < (a0.Zc.length : Int)) then (gd [decide (0 ≤ p1), decide (p1 < (a0.Zc.length : Int))] (bif strEq ((a0.Zc.getD p1.toNat default).ZW) a1 then (some (.inr (.inr p1))) else (some (.inl (wr .i64 (p1 + 1)))))) else (some (.inr (.inl ())))
noncomputable def M.JJ (a0 : Zf) (a1 : ByteArray) : Option Int :=
  (loopM (M.Jx a0 a1) 0).bind fun y3 => Sum.elim (fun _ => some (-1)) (fun y5 => some y5) y3
noncomputable def M.Jl (a0 : Zf) (p1 : Int) (p11 : Int) : Option (Int ⊕ (Unit ⊕ Int)) :=
  bif decide (p11 < p1) then (gd [decide (0 ≤ p11), decide (p11 < (a0.Zq.length : Int)), guardB (((((a0.Zq.getD p11.toNat default).Zp).Zu) == (((a0.Zq.getD p1.toNat default).Zp).Zu)) && (((((a0.Zq.getD p11.toNat default).Zp).ZJ) == (((a0.Zq.getD p1.toNat default).Zp).ZJ)) && true)) (decide (0 ≤ p11)), guardB (((((a0.Zq.getD p11.toNat default).Zp).Zu) == (((a0.Zq.getD p1.toNat default).Zp).Zu)) && (((((a0.Zq.getD p11.toNat default).Zp).ZJ) == (((a0.Zq.getD p1.toNat default).Zp).ZJ)) && true)) (decide (p11 < (a0.Zq.length : Int)))] (bif (((((a0.Zq.getD p11.toNat default).Zp).Zu) == (((a0.Zq.getD p1.toNat default).Zp).Zu)) && (((((a0.Zq.getD p11.toNat default).Zp).ZJ) == (((a0.Zq.getD p1.toNat default).Zp).ZJ)) && true)) && (((a0.Zq.getD p11.toNat default).Xj) == ((a0.Zq.getD p1.toNat default).Xj)) then (some (.inr (.inr 6))) else (some (.inl (wr .i64 (p11 + 1)))))) else (some (.inr (.inl ())))
noncomputable def M.Jm (a0 : Zf) (p1 : Int) (_p10 : Unit) : Option (Int ⊕ (Unit ⊕ Int)) :=
  (loopM (M.Jl a0 p1) 0).bind fun y13 => Sum.elim (fun _ => some (.inl (wr .i64 (p1 + 1)))) (fun y15 => some (.inr (.inr y15))) y13
noncomputable def M.Jn (a0 : Zf) (p1 : Int) (p5 : Int) : Option (Int ⊕ (Unit ⊕ Int)) :=
  (M.YP ((a0.Zq.getD p1.toNat default).Zp)).bind fun r6 => (gc ((!((!r6) || (p5 != 1))) && (((a0.Zq.getD p1.toNat default).Vf) != 0)) (M.Q2 a0 ((a0.Zq.getD p1.toNat default).Vf))).bind fun r7 => (gc (!(((!r6) || (p5 != 1)) || ((((a0.Zq.getD p1.toNat default).Vf) != 0) && (decide (r7 ≥ 0))))) (M.Zz ((a0.Zq.getD p1.toNat default).Xj) 1 255)).bind fun r8 => (gc (!((((!r6) || (p5 != 1)) || ((((a0.Zq.getD p1.toNat default).Vf) != 0) && (decide (r7 ≥ 0)))) || (!r8))) (M.Zz ((a0.Zq.getD p1.toNat default).US) 0 65535)).bind fun r9 => bif ((((!r6) || (p5 != 1)) || ((((a0.Zq.getD p1.toNat default).Vf) != 0) && (decide (r7 ≥ 0)))) || (!r8)) || (!r9) then (some (.inr (.inr 1))) else (bif !strEq ((a0.Zq.getD p1.toNat default).QB) (⟨#[]⟩ : ByteArray) then ((M.JJ a0 ((a0.Zq.getD p1.toNat default).QB)).bind fun r16 => bif decide (r16 < 0) then (some (.inr (.inr 5))) else (gd [decide (0 ≤ r16), decide (r16 < (a0.Zc.length : Int))] (bif ((a0.Zc.getD r16.toNat default).ZJ) == 0 then (some (.inr (.inr 1))) else (M.Jm a0 p1 ())))) else (M.Jm a0 p1 ()))
noncomputable def M.Jo (a0 : Zf) (p1 : Int) (p4 : Int) : Option (Int ⊕ (Unit ⊕ Int)) :=
  bif (a0.Zq.getD p1.toNat default).Vt then (M.Jn a0 p1 (wr .i64 (p4 + 1))) else (M.Jn a0 p1 p4)
noncomputable def M.Jp (a0 : Zf) (p1 : Int) (p3 : Int) : Option (Int ⊕ (Unit ⊕ Int)) :=
  bif !strEq ((a0.Zq.getD p1.toNat default).QB) (⟨#[]⟩ : ByteArray) then (M.Jo a0 p1 (wr .i64 (p3 + 1))) else (M.Jo a0 p1 p3)
noncomputable def M.JK (a0 : Zf) (p1 : Int) : Option (Int ⊕ (Unit ⊕ Int)) :=
  bif decide (p1 < (a0.Zq.length : Int)) then (gd [decide (0 ≤ p1), decide (p1 < (a0.Zq.length : Int))] (bif ((a0.Zq.getD p1.toNat default).Vf) != 0 then (M.Jp a0 p1 1) else (M.Jp a0 p1 0))) else (some (.inr (.inl ())))
noncomputable def M.VF (a0 : Zf) : Option Int :=
  bif decide ((a0.Zq.length : Int) > 16) then (some 7) else ((loopM (M.JK a0) 0).bind fun y17 => Sum.elim (fun _ => some 0) (fun y19 => some y19) y17)
noncomputable def M.Vb (a0 : Zf) (a1 : ByteArray) (p1 : Int) : Option (Int ⊕ (Unit ⊕ Int)) :=
  bif decide (p1 < (a0.Z8.length : Int)) then (gd [decide (0 ≤ p1), decide (p1 < (a0.Z8.length : Int))] (bif strEq ((a0.Z8.getD p1.toNat default).ZW) a1 then (some (.inr (.inr p1))) else (some (.inl (wr .i64 (p1 + 1)))))) else (some (.inr (.inl ())))
noncomputable def M.Jy (a0 : Zf) (a1 : ByteArray) : Option Int :=
  (loopM (M.Vb a0 a1) 0).bind fun y3 => Sum.elim (fun _ => some (-1)) (fun y5 => some y5) y3
noncomputable def M.Yf (a1 : List Yw) (p1 : Int) (p7 : Int) : Option (Int ⊕ (Unit ⊕ Int)) :=
  bif decide (p7 < p1) then (gd [decide (0 ≤ p7), decide (p7 < (a1.length : Int))] (bif ((a1.getD p7.toNat default).WG) == ((a1.getD p1.toNat default).WG) then (some (.inr (.inr 4))) else (some (.inl (wr .i64 (p7 + 1)))))) else (some (.inr (.inl ())))
noncomputable def M.Ys (a0 : Zf) (a1 : List Yw) (a2 : Int) (a3 : Int) (a4 : Int) (p1 : Int) : Option (Int ⊕ (Unit ⊕ Int)) :=
  bif decide (p1 < (a1.length : Int)) then (gd [decide (0 ≤ p1), decide (p1 < (a1.length : Int))] ((M.Zz ((a1.getD p1.toNat default).WG) 1 5).bind fun r3 => (gc (!((!r3) || (((a1.getD p1.toNat default).WG) == a2))) (M.Zz ((a1.getD p1.toNat default).Ks) a3 a4)).bind fun r4 => (gc (!(((!r3) || (((a1.getD p1.toNat default).WG) == a2)) || (!r4))) (M.Zz ((a1.getD p1.toNat default).US) 0 65535)).bind fun r5 => bif (((!r3) || (((a1.getD p1.toNat default).WG) == a2)) || (!r4)) || (!r5) then (some (.inr (.inr 1))) else (bif (((a2 == 3) && (((a1.getD p1.toNat default).G0) != 1)) && (((a1.getD p1.toNat default).G0) != 2)) || ((a2 != 3) && (((a1.getD p1.toNat default).G0) != 0)) then (some (.inr (.inr 1))) else ((gc (!strEq ((a1.getD p1.toNat default).Rg) (⟨#[]⟩ : ByteArray)) (M.Jy a0 ((a1.getD p1.toNat default).Rg))).bind fun r6 => bif (!strEq ((a1.getD p1.toNat default).Rg) (⟨#[]⟩ : ByteArray)) && (decide (r6 < 0)) then (some (.inr (.inr 5))) else ((loopM (M.Yf a1 p1) 0).bind fun y9 => Sum.elim (fun _ => some (.inl (wr .i64 (p1 + 1)))) (fun y11 => some (.inr (.inr y11))) y9))))) else (some (.inr (.inl ())))
noncomputable def M.X8 (a0 : Zf) (a1 : List Yw) (a2 : Int) (a3 : Int) (a4 : Int) : Option Int :=
  bif decide ((a1.length : Int) > 4) then (some 7) else ((loopM (M.Ys a0 a1 a2 a3 a4) 0).bind fun y12 => Sum.elim (fun _ => some 0) (fun y14 => some y14) y12)
noncomputable def M.Q3 (a0 : Zf) (p2 : Int) (p6 : Int) : Option (Int ⊕ (Unit ⊕ Int)) :=
  bif decide (p6 < p2) then ((gc (((a0.Yi.ZK.getD p6.toNat default).JV) == ((a0.Yi.ZK.getD p2.toNat default).JV)) (M.J7 ((a0.Yi.ZK.getD p6.toNat default).Zp) ((a0.Yi.ZK.getD p2.toNat default).Zp))).bind fun r8 => gd [decide (0 ≤ p6), decide (p6 < (a0.Yi.ZK.length : Int)), decide (0 ≤ p2), decide (p2 < (a0.Yi.ZK.length : Int)), guardB (((a0.Yi.ZK.getD p6.toNat default).JV) == ((a0.Yi.ZK.getD p2.toNat default).JV)) (decide (0 ≤ p6)), guardB (((a0.Yi.ZK.getD p6.toNat default).JV) == ((a0.Yi.ZK.getD p2.toNat default).JV)) (decide (p6 < (a0.Yi.ZK.length : Int))), guardB (((a0.Yi.ZK.getD p6.toNat default).JV) == ((a0.Yi.ZK.getD p2.toNat default).JV)) (decide (0 ≤ p2)), guardB (((a0.Yi.ZK.getD p6.toNat default).JV) == ((a0.Yi.ZK.getD p2.toNat default).JV)) (decide (p2 < (a0.Yi.ZK.length : Int)))] (bif (((a0.Yi.ZK.getD p6.toNat default).JV) == ((a0.Yi.ZK.getD p2.toNat default).JV)) && r8 then (some (.inr (.inr 6))) else (some (.inl (wr .i64 (p6 + 1)))))) else (some (.inr (.inl ())))
noncomputable def M.Q4 (a0 : Zf) (p2 : Int) : Option (Int ⊕ (Unit ⊕ Int)) :=
  bif decide (p2 < (a0.Yi.ZK.length : Int)) then ((M.Zz ((a0.Yi.ZK.getD p2.toNat default).JV) 0 255).bind fun r4 => (gc (!(!r4)) (M.YP ((a0.Yi.ZK.getD p2.toNat default).Zp))).bind fun r5 => gd [decide (0 ≤ p2), decide (p2 < (a0.Yi.ZK.length : Int)), guardB (!(!r4)) (decide (0 ≤ p2)), guardB (!(!r4)) (decide (p2 < (a0.Yi.ZK.length : Int)))] (bif (!r4) || (!r5) then (some (.inr (.inr 1))) else ((loopM (M.Q3 a0 p2) 0).bind fun y9 => Sum.elim (fun _ => some (.inl (wr .i64 (p2 + 1)))) (fun y11 => some (.inr (.inr y11))) y9))) else (some (.inr (.inl ())))
noncomputable def M.JL (a0 : Zf) : Option Int :=
  bif !a0.Yi.Wr then (bif ((a0.Yi.Xj != 0) || (decide ((a0.Yi.ZK.length : Int) > 0))) || (decide ((a0.Yi.Zv.length : Int) > 0)) then (some 1) else (some 0)) else ((M.Zz a0.Yi.Xj 1 255).bind fun r1 => bif !r1 then (some 1) else (bif decide ((a0.Yi.ZK.length : Int) > 4) then (some 7) else ((loopM (M.Q4 a0) 0).bind fun y12 => Sum.elim (fun _ => (M.X8 a0 a0.Yi.Zv 3 0 16777215).bind fun r15 => some r15) (fun y14 => some y14) y12)))
noncomputable def M.J8 (a0 : Zf) : Option Int :=
  bif !a0.YC.Wr then (bif (((a0.YC.Xj != 0) || (!strEq a0.YC.VQ (⟨#[]⟩ : ByteArray))) || (!strEq a0.YC.YV (⟨#[]⟩ : ByteArray))) || (decide ((a0.YC.Zv.length : Int) > 0)) then (some 1) else (some 0)) else ((M.Zz a0.YC.Xj 1 255).bind fun r1 => bif !r1 then (some 1) else ((gc (!strEq a0.YC.VQ (⟨#[]⟩ : ByteArray)) (M.Qy a0 a0.YC.VQ)).bind fun r2 => (gc ((!((!strEq a0.YC.VQ (⟨#[]⟩ : ByteArray)) && (decide (r2 < 0)))) && (!strEq a0.YC.YV (⟨#[]⟩ : ByteArray))) (M.Qy a0 a0.YC.YV)).bind fun r3 => bif ((!strEq a0.YC.VQ (⟨#[]⟩ : ByteArray)) && (decide (r2 < 0))) || ((!strEq a0.YC.YV (⟨#[]⟩ : ByteArray)) && (decide (r3 < 0))) then (some 5) else ((M.X8 a0 a0.YC.Zv 4 1 15).bind fun r4 => some r4)))
noncomputable def M.Q5 (a0 : Zf) (p1 : Int) (p6 : Int) : Option (Int ⊕ (Unit ⊕ Int)) :=
  bif decide (p6 < p1) then (gd [decide (0 ≤ p6), decide (p6 < (a0.Xb.Zl.length : Int)), decide (0 ≤ p1), decide (p1 < (a0.Xb.Zl.length : Int))] (bif ((a0.Xb.Zl.getD p6.toNat default).Zu) == ((a0.Xb.Zl.getD p1.toNat default).Zu) then (some (.inr (.inr 4))) else (some (.inl (wr .i64 (p6 + 1)))))) else (some (.inr (.inl ())))
noncomputable def M.Q6 (a0 : Zf) (p1 : Int) : Option (Int ⊕ (Unit ⊕ Int)) :=
  bif decide (p1 < (a0.Xb.Zl.length : Int)) then ((gc (!(((a0.Xb.Zl.getD p1.toNat default).Zu) == 0)) (M.Zz ((a0.Xb.Zl.getD p1.toNat default).GN) 1 65535)).bind fun r3 => gd [decide (0 ≤ p1), decide (p1 < (a0.Xb.Zl.length : Int)), guardB (!(((a0.Xb.Zl.getD p1.toNat default).Zu) == 0)) (decide (0 ≤ p1)), guardB (!(((a0.Xb.Zl.getD p1.toNat default).Zu) == 0)) (decide (p1 < (a0.Xb.Zl.length : Int)))] (bif (((a0.Xb.Zl.getD p1.toNat default).Zu) == 0) || (!r3) then (some (.inr (.inr 1))) else ((gc (!strEq ((a0.Xb.Zl.getD p1.toNat default).VQ) (⟨#[]⟩ : ByteArray)) (M.Jy a0 ((a0.Xb.Zl.getD p1.toNat default).VQ))).bind fun r4 => (gc ((!((!strEq ((a0.Xb.Zl.getD p1.toNat default).VQ) (⟨#[]⟩ : ByteArray)) && (decide (r4 < 0)))) && (!strEq ((a0.Xb.Zl.getD p1.toNat default).YV) (⟨#[]⟩ : ByteArray))) (M.Jy a0 ((a0.Xb.Zl.getD p1.toNat default).YV))).bind fun r5 => gd [decide (0 ≤ p1), decide (p1 < (a0.Xb.Zl.length : Int)), guardB (!strEq ((a0.Xb.Zl.getD p1.toNat default).VQ) (⟨#[]⟩ : ByteArray)) (decide (0 ≤ p1)), guardB (!strEq ((a0.Xb.Zl.getD p1.toNat default).VQ) (⟨#[]⟩ : ByteArray)) (decide (p1 < (a0.Xb.Zl.length : Int))), guardB (!((!strEq ((a0.Xb.Zl.getD p1.toNat default).VQ) (⟨#[]⟩ : ByteArray)) && (decide (r4 < 0)))) (decide (0 ≤ p1)), guardB (!((!strEq ((a0.Xb.Zl.getD p1.toNat default).VQ) (⟨#[]⟩ : ByteArray)) && (decide (r4 < 0)))) (decide (p1 < (a0.Xb.Zl.length : Int))), guardB ((!((!strEq ((a0.Xb.Zl.getD p1.toNat default).VQ) (⟨#[]⟩ : ByteArray)) && (decide (r4 < 0)))) && (!strEq ((a0.Xb.Zl.getD p1.toNat default).YV) (⟨#[]⟩ : ByteArray))) (decide (0 ≤ p1)), guardB ((!((!strEq ((a0.Xb.Zl.getD p1.toNat default).VQ) (⟨#[]⟩ : ByteArray)) && (decide (r4 < 0)))) && (!strEq ((a0.Xb.Zl.getD p1.toNat default).YV) (⟨#[]⟩ : ByteArray))) (decide (p1 < (a0.Xb.Zl.length : Int)))] (bif ((!strEq ((a0.Xb.Zl.getD p1.toNat default).VQ) (⟨#[]⟩ : ByteArray)) && (decide (r4 < 0))) || ((!strEq ((a0.Xb.Zl.getD p1.toNat default).YV) (⟨#[]⟩ : ByteArray)) && (decide (r5 < 0))) then (some (.inr (.inr 5))) else ((loopM (M.Q5 a0 p1) 0).bind fun y8 => Sum.elim (fun _ => some (.inl (wr .i64 (p1 + 1)))) (fun y10 => some (.inr (.inr y10))) y8))))) else (some (.inr (.inl ())))
noncomputable def M.J0 (a0 : Zf) : Option Int :=
  bif decide ((a0.Xb.Zl.length : Int) > 8) then (some 7) else ((loopM (M.Q6 a0) 0).bind fun y11 => Sum.elim (fun _ => some 0) (fun y13 => some y13) y11)
noncomputable def M.Qt (a0 : Z4) (p1 : Int) (p4 : Int) : Option (Int ⊕ (Unit ⊕ Int)) :=
  bif decide (p4 < p1) then (gd [decide (0 ≤ p4), decide (p4 < (a0.Zt.length : Int)), decide (0 ≤ p1), decide (p1 < (a0.Zt.length : Int))] (bif ((((a0.Zt.getD p4.toNat default).Zu) == ((a0.Zt.getD p1.toNat default).Zu)) && ((((a0.Zt.getD p4.toNat default).ZJ) == ((a0.Zt.getD p1.toNat default).ZJ)) && true)) then (some (.inr (.inr 4))) else (some (.inl (wr .i64 (p4 + 1)))))) else (some (.inr (.inl ())))
noncomputable def M.Y5 (a0 : Z4) (p1 : Int) : Option (Int ⊕ (Unit ⊕ Int)) :=
  bif decide (p1 < (a0.Zt.length : Int)) then ((M.YP (a0.Zt.getD p1.toNat default)).bind fun r3 => gd [decide (0 ≤ p1), decide (p1 < (a0.Zt.length : Int))] (bif !r3 then (some (.inr (.inr 1))) else ((loopM (M.Qt a0 p1) 0).bind fun y6 => Sum.elim (fun _ => some (.inl (wr .i64 (p1 + 1)))) (fun y8 => some (.inr (.inr y8))) y6))) else (some (.inr (.inl ())))
noncomputable def M.Y6 (a0 : Z4) (p12 : Int) (p15 : Int) : Option (Int ⊕ (Unit ⊕ Int)) :=
  bif decide (p15 < p12) then (gd [decide (0 ≤ p15), decide (p15 < (a0.Zr.length : Int)), decide (0 ≤ p12), decide (p12 < (a0.Zr.length : Int))] (bif (((((a0.Zr.getD p15.toNat default).Zp).Zu) == (((a0.Zr.getD p12.toNat default).Zp).Zu)) && (((((a0.Zr.getD p15.toNat default).Zp).ZJ) == (((a0.Zr.getD p12.toNat default).Zp).ZJ)) && true)) then (some (.inr (.inr 4))) else (some (.inl (wr .i64 (p15 + 1)))))) else (some (.inr (.inl ())))
noncomputable def M.Y7 (a0 : Z4) (p12 : Int) : Option (Int ⊕ (Unit ⊕ Int)) :=
  bif decide (p12 < (a0.Zr.length : Int)) then ((M.YP ((a0.Zr.getD p12.toNat default).Zp)).bind fun r14 => gd [decide (0 ≤ p12), decide (p12 < (a0.Zr.length : Int))] (bif !r14 then (some (.inr (.inr 1))) else ((loopM (M.Y6 a0 p12) 0).bind fun y17 => Sum.elim (fun _ => some (.inl (wr .i64 (p12 + 1)))) (fun y19 => some (.inr (.inr y19))) y17))) else (some (.inr (.inl ())))
noncomputable def M.Y8 (a0 : Z4) (p23 : Int) (p27 : Int) : Option (Int ⊕ (Unit ⊕ Int)) :=
  bif decide (p27 < p23) then (gd [decide (0 ≤ p27), decide (p27 < (a0.Zo.length : Int))] (bif (((((a0.Zo.getD p27.toNat default).Zp).Zu) == (((a0.Zo.getD p23.toNat default).Zp).Zu)) && (((((a0.Zo.getD p27.toNat default).Zp).ZJ) == (((a0.Zo.getD p23.toNat default).Zp).ZJ)) && true)) then (some (.inr (.inr 4))) else (some (.inl (wr .i64 (p27 + 1)))))) else (some (.inr (.inl ())))
noncomputable def M.Y9 (a0 : Z4) (p23 : Int) : Option (Int ⊕ (Unit ⊕ Int)) :=
  bif decide (p23 < (a0.Zo.length : Int)) then (gd [decide (0 ≤ p23), decide (p23 < (a0.Zo.length : Int))] ((M.YP ((a0.Zo.getD p23.toNat default).Zp)).bind fun r25 => (gc (!(!r25)) (M.YP ((a0.Zo.getD p23.toNat default).fIf))).bind fun r26 => bif (!r25) || (!r26) then (some (.inr (.inr 1))) else (bif (((((a0.Zo.getD p23.toNat default).Zp).Zu) == (((a0.Zo.getD p23.toNat default).fIf).Zu)) && (((((a0.Zo.getD p23.toNat default).Zp).ZJ) == (((a0.Zo.getD p23.toNat default).fIf).ZJ)) && true)) then (some (.inr (.inr 6))) else ((loopM (M.Y8 a0 p23) 0).bind fun y29 => Sum.elim (fun _ => some (.inl (wr .i64 (p23 + 1)))) (fun y31 => some (.inr (.inr y31))) y29)))) else (some (.inr (.inl ())))
noncomputable def M.Q7 (a0 : Z4) : Option Int :=
  bif decide ((a0.Zt.length : Int) > 8) then (some 7) else ((loopM (M.Y5 a0) 0).bind fun y9 => Sum.elim (fun _ => bif decide ((a0.Zr.length : Int) > 8) then (some 7) else ((loopM (M.Y7 a0) 0).bind fun y20 => Sum.elim (fun _ => bif decide ((a0.Zo.length : Int) > 8) then (some 7) else ((loopM (M.Y9 a0) 0).bind fun y32 => Sum.elim (fun _ => some 0) (fun y34 => some y34) y32)) (fun y22 => some y22) y20)) (fun y11 => some y11) y9)
noncomputable def M.Jq (a0 : Zf) : Option Int :=
  bif !a0.Xb.Wr then (bif ((a0.Xb.X4 != 0) || (a0.Xb.X5 != 0)) || (decide ((wr .i64 ((wr .i64 ((wr .i64 ((wr .i64 ((a0.Xb.Zl.length : Int) + (a0.Xb.Zt.length : Int))) + (a0.Xb.Zr.length : Int))) + (a0.Xb.Zo.length : Int))) + (a0.Xb.Zv.length : Int))) > 0)) then (some 1) else (some 0)) else ((gc (!(a0.GN == 0)) (M.Zz a0.Xb.X4 1 255)).bind fun r1 => (gc (!((a0.GN == 0) || (!r1))) (M.Zz a0.Xb.X5 1 255)).bind fun r2 => bif ((a0.GN == 0) || (!r1)) || (!r2) then (some 1) else ((M.J0 a0).bind fun r3 => bif r3 != 0 then (some r3) else ((M.Q7 a0.Xb).bind fun r4 => bif r4 != 0 then (some r4) else ((M.X8 a0 a0.Xb.Zv 5 0 16777215).bind fun r5 => some r5))))
noncomputable def M.Jh (r3 : Int) (r4 : Int) (r5 : Int) (r6 : Int) (r7 : Int) (r8 : Int) (r9 : Int) (r10 : Int) (r11 : Int) (r12 : Int) (p13 : Int) : Option (Int ⊕ (Unit ⊕ Int)) :=
  bif decide (p13 < (([r3, r4, r5, r6, r7, r8, r9, r10, r11, r12] : List Int).length : Int)) then (gd [decide (0 ≤ p13), decide (p13 < (([r3, r4, r5, r6, r7, r8, r9, r10, r11, r12] : List Int).length : Int))] (bif (([r3, r4, r5, r6, r7, r8, r9, r10, r11, r12] : List Int).getD p13.toNat default) != 0 then (gd [decide (0 ≤ p13), decide (p13 < (([r3, r4, r5, r6, r7, r8, r9, r10, r11, r12] : List Int).length : Int))] (some (.inr (.inr (([r3, r4, r5, r6, r7, r8, r9, r10, r11, r12] : List Int).getD p13.toNat default))))) else (some (.inl (wr .i64 (p13 + 1)))))) else (some (.inr (.inl ())))
noncomputable def M.QV (a0 : Zf) : Option Int :=
  (M.Je a0.ZW).bind fun r1 => bif !r1 then (some 3) else ((M.Zz a0.GN 0 65535).bind fun r2 => bif !r2 then (some 1) else ((M.Jk a0.Zc).bind fun r3 => (M.QT a0.Xk).bind fun r4 => (M.JI a0).bind fun r5 => (M.QU a0.XO).bind fun r6 => (M.Qz a0).bind fun r7 => (M.V8 a0).bind fun r8 => (M.VF a0).bind fun r9 => (M.JL a0).bind fun r10 => (M.J8 a0).bind fun r11 => (M.Jq a0).bind fun r12 => (loopM (M.Jh r3 r4 r5 r6 r7 r8 r9 r10 r11 r12) 0).bind fun y15 => Sum.elim (fun _ => some 0) (fun y17 => some y17) y15))
noncomputable def M.VW (a0 : ZX) (p1 : Int) (p4 : Int) : Option (Int ⊕ (Unit ⊕ Int)) :=
  bif decide (p4 < p1) then (gd [decide (0 ≤ p4), decide (p4 < (a0.Zd.length : Int)), decide (0 ≤ p1), decide (p1 < (a0.Zd.length : Int))] (bif strEq ((a0.Zd.getD p4.toNat default).ZW) ((a0.Zd.getD p1.toNat default).ZW) then (some (.inr (.inr 4))) else (some (.inl (wr .i64 (p4 + 1)))))) else (some (.inr (.inl ())))
noncomputable def M.Vv (a0 : ZX) (p1 : Int) (p9 : Int) (p11 : Int) : Option (Int ⊕ (Unit ⊕ Int)) :=
  bif decide (p11 < p1) then ((gc (((((a0.Zd.getD p1.toNat default).Zc).getD p9.toNat default).ZJ) != 0) (M.Q2 (a0.Zd.getD p11.toNat default) ((((a0.Zd.getD p1.toNat default).Zc).getD p9.toNat default).Zu))).bind fun r13 => gd [guardB (((((a0.Zd.getD p1.toNat default).Zc).getD p9.toNat default).ZJ) != 0) (decide (0 ≤ p11)), guardB (((((a0.Zd.getD p1.toNat default).Zc).getD p9.toNat default).ZJ) != 0) (decide (p11 < (a0.Zd.length : Int)))] (bif (((((a0.Zd.getD p1.toNat default).Zc).getD p9.toNat default).ZJ) != 0) && (decide (r13 ≥ 0)) then (some (.inr (.inr 4))) else (some (.inl (wr .i64 (p11 + 1)))))) else (some (.inr (.inl ())))
noncomputable def M.Vw (a0 : ZX) (p1 : Int) (p9 : Int) : Option (Int ⊕ (Unit ⊕ Int)) :=
  gd [decide (0 ≤ p1), decide (p1 < (a0.Zd.length : Int))] (bif decide (p9 < (((a0.Zd.getD p1.toNat default).Zc).length : Int)) then (gd [decide (0 ≤ p1), decide (p1 < (a0.Zd.length : Int)), decide (0 ≤ p9), decide (p9 < (((a0.Zd.getD p1.toNat default).Zc).length : Int))] ((loopM (M.Vv a0 p1 p9) 0).bind fun y14 => Sum.elim (fun _ => some (.inl (wr .i64 (p9 + 1)))) (fun y16 => some (.inr (.inr y16))) y14)) else (some (.inr (.inl ()))))
noncomputable def M.Vx (a0 : ZX) (p1 : Int) : Option (Int ⊕ (Unit ⊕ Int)) :=
  bif decide (p1 < (a0.Zd.length : Int)) then ((M.QV (a0.Zd.getD p1.toNat default)).bind fun r3 => gd [decide (0 ≤ p1), decide (p1 < (a0.Zd.length : Int))] (bif r3 != 0 then (some (.inr (.inr r3))) else ((loopM (M.VW a0 p1) 0).bind fun y6 => Sum.elim (fun _ => (loopM (M.Vw a0 p1) 0).bind fun y17 => Sum.elim (fun _ => some (.inl (wr .i64 (p1 + 1)))) (fun y19 => some (.inr (.inr y19))) y17) (fun y8 => some (.inr (.inr y8))) y6))) else (some (.inr (.inl ())))
noncomputable def M.V9 (a0 : ZX) : Option Int :=
  bif decide ((a0.Zd.length : Int) > 8) then (some 7) else ((loopM (M.Vx a0) 0).bind fun y20 => Sum.elim (fun _ => some 0) (fun y22 => some y22) y20)
noncomputable def M.Wn (a0 : ZL) (a1 : ZL) : Option Int :=
  bif (decide (a0.Zu < a1.Zu)) || ((a0.Zu == a1.Zu) && (decide (a0.ZJ < a1.ZJ))) then (some (-1)) else (bif ((a0.Zu == a1.Zu) && ((a0.ZJ == a1.ZJ) && true)) then (some 0) else (some 1))
noncomputable def M.Uk (p16 : (List Zk) × Int) (p18 : (List Zk)) : Option (((List Zk) × Int) ⊕ (List Zk)) :=
  some (.inl (p18, wr .i64 (p16.2 + 1)))
noncomputable def M.WN (a0 : ZX) (p14 : (List Zk) × Int) (p16 : (List Zk) × Int) (r19 : ZL) (p20 : Int) : Option (Int ⊕ Int) :=
  (gc (decide (p20 < (p16.1.length : Int))) (M.Wn ((p16.1.getD (0 + p20.toNat) default).Zp) r19)).bind fun r22 => gd [guardB (decide (p20 < (p16.1.length : Int))) (decide (0 ≤ p20)), guardB (decide (p20 < (p16.1.length : Int))) (decide (p20 < (p16.1.length : Int))), guardB ((decide (p20 < (p16.1.length : Int))) && !(decide (r22 < 0))) (decide (0 ≤ p20)), guardB ((decide (p20 < (p16.1.length : Int))) && !(decide (r22 < 0))) (decide (p20 < (p16.1.length : Int))), guardB (((decide (p20 < (p16.1.length : Int))) && !(decide (r22 < 0))) && (((((p16.1.getD (0 + p20.toNat) default).Zp).Zu) == r19.Zu) && (((((p16.1.getD (0 + p20.toNat) default).Zp).ZJ) == r19.ZJ) && true))) (decide (0 ≤ p20)), guardB (((decide (p20 < (p16.1.length : Int))) && !(decide (r22 < 0))) && (((((p16.1.getD (0 + p20.toNat) default).Zp).Zu) == r19.Zu) && (((((p16.1.getD (0 + p20.toNat) default).Zp).ZJ) == r19.ZJ) && true))) (decide (p20 < (p16.1.length : Int)))] (bif (decide (p20 < (p16.1.length : Int))) && ((decide (r22 < 0)) || ((((((p16.1.getD (0 + p20.toNat) default).Zp).Zu) == r19.Zu) && (((((p16.1.getD (0 + p20.toNat) default).Zp).ZJ) == r19.ZJ) && true)) && (decide (((p16.1.getD (0 + p20.toNat) default).Xr) < ((((a0.Zd.getD p14.2.toNat default).Zc).getD p16.2.toNat default).Xr))))) then (some (.inl (wr .i64 (p20 + 1)))) else (some (.inr p20)))
noncomputable def M.Ul (p14 : (List Zk) × Int) (p16 : (List Zk) × Int) (y23 : Int) (p24 : (List Zk)) : Option (((List Zk) × Int) ⊕ (List Zk)) :=
  gd [decide (0 ≤ y23), decide (y23 < (p24.length : Int)), decide ((((p24.getD (0 + y23.toNat) default).Xf).length + 1) * 16 ≤ 140737488355328), decide (0 ≤ y23), decide (y23 < (p24.length : Int))] (M.Uk p16 (p24.set (0 + y23.toNat) (⟨(p24.getD (0 + y23.toNat) default).Zp, (p24.getD (0 + y23.toNat) default).Xr, ((p24.getD (0 + y23.toNat) default).Xf) ++ [(⟨p14.2, p16.2⟩ : VS)]⟩ : Zk)))
noncomputable def M.WO (a0 : ZX) (p14 : (List Zk) × Int) (p16 : (List Zk) × Int) : Option (((List Zk) × Int) ⊕ (List Zk)) :=
  gd [decide (0 ≤ p14.2), decide (p14.2 < (a0.Zd.length : Int))] (bif decide (p16.2 < (((a0.Zd.getD p14.2.toNat default).Zc).length : Int)) then (gd [decide (0 ≤ p14.2), decide (p14.2 < (a0.Zd.length : Int)), decide (0 ≤ p16.2), decide (p16.2 < (((a0.Zd.getD p14.2.toNat default).Zc).length : Int))] (bif (((((a0.Zd.getD p14.2.toNat default).Zc).getD p16.2.toNat default).ZJ) == 0) || ((((a0.Zd.getD p14.2.toNat default).Zc).getD p16.2.toNat default).K3) then (M.Uk p16 p16.1) else ((M.QZ ((((a0.Zd.getD p14.2.toNat default).Zc).getD p16.2.toNat default).Zu) ((((a0.Zd.getD p14.2.toNat default).Zc).getD p16.2.toNat default).ZJ)).bind fun r19 => (loopM (M.WN a0 p14 p16 r19) 0).bind fun y23 => gd [guardB (!(y23 == (p16.1.length : Int))) (decide (0 ≤ y23)), guardB (!(y23 == (p16.1.length : Int))) (decide (y23 < (p16.1.length : Int))), guardB (!((y23 == (p16.1.length : Int)) || (!(((((p16.1.getD (0 + y23.toNat) default).Zp).Zu) == r19.Zu) && (((((p16.1.getD (0 + y23.toNat) default).Zp).ZJ) == r19.ZJ) && true))))) (decide (0 ≤ y23)), guardB (!((y23 == (p16.1.length : Int)) || (!(((((p16.1.getD (0 + y23.toNat) default).Zp).Zu) == r19.Zu) && (((((p16.1.getD (0 + y23.toNat) default).Zp).ZJ) == r19.ZJ) && true))))) (decide (y23 < (p16.1.length : Int)))] (bif ((y23 == (p16.1.length : Int)) || (!(((((p16.1.getD (0 + y23.toNat) default).Zp).Zu) == r19.Zu) && (((((p16.1.getD (0 + y23.toNat) default).Zp).ZJ) == r19.ZJ) && true)))) || (((p16.1.getD (0 + y23.toNat) default).Xr) != ((((a0.Zd.getD p14.2.toNat default).Zc).getD p16.2.toNat default).Xr)) then (gd [decide (0 ≤ y23), decide (y23 ≤ (p16.1.length : Int)), decide (0 = 0) || decide (0 < (p16.1.length - y23.toNat)), decide ((0 + (p16.1.length - y23.toNat)) * 48 ≤ 140737488355328)] (gd [decide (0 ≤ y23), decide (y23 ≤ (p16.1.length : Int)), decide (((y23.toNat - 0) + 1) * 48 ≤ 140737488355328), decide ((((y23.toNat - 0) + 1) + (0 + (p16.1.length - y23.toNat))) * 48 ≤ 140737488355328)] (M.Ul p14 p16 y23 (insL p16.1 y23.toNat (⟨r19, (((a0.Zd.getD p14.2.toNat default).Zc).getD p16.2.toNat default).Xr, ([] : List VS)⟩ : Zk))))) else (M.Ul p14 p16 y23 p16.1))))) else (some (.inr p16.1)))
noncomputable def M.WP (a0 : ZX) (p14 : (List Zk) × Int) : Option (((List Zk) × Int) ⊕ (List Zk)) :=
  bif decide (p14.2 < (a0.Zd.length : Int)) then ((loopM (M.WO a0 p14) (p14.1, 0)).bind fun y25 => some (.inl (y25, wr .i64 (p14.2 + 1)))) else (some (.inr p14.1))
noncomputable def M.Um (p28 : (List Int) × Int) (p30 : (List Int)) : Option (((List Int) × Int) ⊕ (List Int)) :=
  some (.inl (p30, wr .i64 (p28.2 + 1)))
noncomputable def M.WQ (y26 : (List Zk)) (p28 : (List Int) × Int) : Option (((List Int) × Int) ⊕ (List Int)) :=
  bif decide (p28.2 < (y26.length : Int)) then (gd [decide (0 ≤ p28.2), decide (p28.2 < (y26.length : Int))] (bif decide ((((y26.getD p28.2.toNat default).Xf).length : Int) > 1) then (gd [decide ((p28.1.length + 1) * 8 ≤ 140737488355328)] (M.Um p28 (p28.1 ++ [p28.2]))) else (M.Um p28 p28.1))) else (some (.inr p28.1))
noncomputable def M.Gr (a0 : ZX) : Option (Qu × Int) :=
  (M.V9 a0).bind fun r1 => bif r1 != 0 then (some ((⟨([] : List Zk), ([] : List Int)⟩ : Qu), r1)) else ((loopM (M.WP a0) (([] : List Zk), 0)).bind fun y26 => (loopM (M.WQ y26) (([] : List Int), 0)).bind fun y31 => bif decide ((y31.length : Int) > 12) then (some ((⟨([] : List Zk), ([] : List Int)⟩ : Qu), 7)) else (some ((⟨y26, y31⟩ : Qu), 0)))
noncomputable def M.Wo (a0 : List Int) (a1 : List Int) (p1 : Int) : Option (Int ⊕ (Unit ⊕ Bool)) :=
  bif decide (p1 < (a0.length : Int)) then (gd [decide (0 ≤ p1), decide (p1 < (a0.length : Int)), decide (0 ≤ p1), decide (p1 < (a1.length : Int))] (bif (a0.getD p1.toNat default) != (a1.getD p1.toNat default) then (some (.inr (.inr false))) else (some (.inl (wr .i64 (p1 + 1)))))) else (some (.inr (.inl ())))
noncomputable def M.UK (a0 : List Int) (a1 : List Int) : Option Bool :=
  bif (a0.length : Int) != (a1.length : Int) then (some false) else ((loopM (M.Wo a0 a1) 0).bind fun y3 => Sum.elim (fun _ => some true) (fun y5 => some y5) y3)
noncomputable def M.Wp (a0 : List VS) (a1 : List VS) (p1 : Int) : Option (Int ⊕ (Unit ⊕ Bool)) :=
  bif decide (p1 < (a0.length : Int)) then (gd [decide (0 ≤ p1), decide (p1 < (a0.length : Int)), decide (0 ≤ p1), decide (p1 < (a1.length : Int))] (bif !((((a0.getD p1.toNat default).G8) == ((a1.getD p1.toNat default).G8)) && ((((a0.getD p1.toNat default).QB) == ((a1.getD p1.toNat default).QB)) && true)) then (some (.inr (.inr false))) else (some (.inl (wr .i64 (p1 + 1)))))) else (some (.inr (.inl ())))
noncomputable def M.UL (a0 : List VS) (a1 : List VS) : Option Bool :=
  bif (a0.length : Int) != (a1.length : Int) then (some false) else ((loopM (M.Wp a0 a1) 0).bind fun y3 => Sum.elim (fun _ => some true) (fun y5 => some y5) y3)
noncomputable def M.Vq (a0 : Qu) (a1 : Qu) (p2 : Int) : Option (Int ⊕ (Unit ⊕ Bool)) :=
  bif decide (p2 < (a0.XT.length : Int)) then (gd [decide (0 ≤ p2), decide (p2 < (a0.XT.length : Int)), decide (0 ≤ p2), decide (p2 < (a1.XT.length : Int))] ((gc (!((!(((((a0.XT.getD p2.toNat default).Zp).Zu) == (((a1.XT.getD p2.toNat default).Zp).Zu)) && (((((a0.XT.getD p2.toNat default).Zp).ZJ) == (((a1.XT.getD p2.toNat default).Zp).ZJ)) && true))) || (((a0.XT.getD p2.toNat default).Xr) != ((a1.XT.getD p2.toNat default).Xr)))) (M.UL ((a0.XT.getD p2.toNat default).Xf) ((a1.XT.getD p2.toNat default).Xf))).bind fun r4 => bif ((!(((((a0.XT.getD p2.toNat default).Zp).Zu) == (((a1.XT.getD p2.toNat default).Zp).Zu)) && (((((a0.XT.getD p2.toNat default).Zp).ZJ) == (((a1.XT.getD p2.toNat default).Zp).ZJ)) && true))) || (((a0.XT.getD p2.toNat default).Xr) != ((a1.XT.getD p2.toNat default).Xr))) || (!r4) then (some (.inr (.inr false))) else (some (.inl (wr .i64 (p2 + 1)))))) else (some (.inr (.inl ())))
noncomputable def M.WR (a0 : Qu) (a1 : Qu) : Option Bool :=
  (gc (!((a0.XT.length : Int) != (a1.XT.length : Int))) (M.UK a0.Wy a1.Wy)).bind fun r1 => bif ((a0.XT.length : Int) != (a1.XT.length : Int)) || (!r1) then (some false) else ((loopM (M.Vq a0 a1) 0).bind fun y5 => Sum.elim (fun _ => some true) (fun y7 => some y7) y5)
noncomputable def M.WS  : Option ZX :=
  some (⟨([(⟨(⟨#[97]⟩ : ByteArray), 0, ([(⟨(⟨#[101, 48]⟩ : ByteArray), 167772161, 24, 0, false, false, 0, 0, false, (⟨#[]⟩ : ByteArray), (⟨#[]⟩ : ByteArray), 0⟩ : Zy)] : List Zy), ([] : List Z1), ([] : List X1), ([] : List WD), ([] : List YS), ([] : List Yc), (⟨false, 0, ([] : List VZ), ([] : List Yw)⟩ : We), (⟨false, 0, (⟨#[]⟩ : ByteArray), (⟨#[]⟩ : ByteArray), ([] : List Yw)⟩ : Qw), (⟨false, 0, 0, ([] : List Vo), ([] : List ZL), ([] : List V0), ([] : List V2), ([] : List Yw)⟩ : Z4)⟩ : Zf), (⟨(⟨#[98]⟩ : ByteArray), 0, ([(⟨(⟨#[101, 48]⟩ : ByteArray), 167772162, 24, 0, false, false, 0, 0, false, (⟨#[]⟩ : ByteArray), (⟨#[]⟩ : ByteArray), 0⟩ : Zy), (⟨(⟨#[101, 49]⟩ : ByteArray), 167772418, 24, 0, false, false, 0, 0, false, (⟨#[]⟩ : ByteArray), (⟨#[]⟩ : ByteArray), 0⟩ : Zy)] : List Zy), ([] : List Z1), ([] : List X1), ([] : List WD), ([] : List YS), ([] : List Yc), (⟨false, 0, ([] : List VZ), ([] : List Yw)⟩ : We), (⟨false, 0, (⟨#[]⟩ : ByteArray), (⟨#[]⟩ : ByteArray), ([] : List Yw)⟩ : Qw), (⟨false, 0, 0, ([] : List Vo), ([] : List ZL), ([] : List V0), ([] : List V2), ([] : List Yw)⟩ : Z4)⟩ : Zf)] : List Zf)⟩ : ZX)
noncomputable def M.XX (a0 : List Zf) : Option (List Zf) :=
  gd [decide (0 = 0) || decide (0 < a0.length), decide ((0 + a0.length) * 448 ≤ 140737488355328)] (some a0)
noncomputable def M.XA (a0 : List Zy) : Option (List Zy) :=
  gd [decide (0 = 0) || decide (0 < a0.length), decide ((0 + a0.length) * 112 ≤ 140737488355328)] (some a0)
noncomputable def M.Xv (a0 : List Z1) : Option (List Z1) :=
  gd [decide (0 = 0) || decide (0 < a0.length), decide ((0 + a0.length) * 40 ≤ 140737488355328)] (some a0)
noncomputable def M.XH (a0 : List X1) : Option (List X1) :=
  gd [decide (0 = 0) || decide (0 < a0.length), decide ((0 + a0.length) * 40 ≤ 140737488355328)] (some a0)
noncomputable def M.Yl (a0 : List WD) : Option (List WD) :=
  gd [decide (0 = 0) || decide (0 < a0.length), decide ((0 + a0.length) * 40 ≤ 140737488355328)] (some a0)
noncomputable def M.Xo (a0 : List YS) : Option (List YS) :=
  gd [decide (0 = 0) || decide (0 < a0.length), decide ((0 + a0.length) * 64 ≤ 140737488355328)] (some a0)
noncomputable def M.Xp (a0 : List Yc) : Option (List Yc) :=
  gd [decide (0 = 0) || decide (0 < a0.length), decide ((0 + a0.length) * 64 ≤ 140737488355328)] (some a0)
noncomputable def M.XB (a0 : List VZ) : Option (List VZ) :=
  gd [decide (0 = 0) || decide (0 < a0.length), decide ((0 + a0.length) * 24 ≤ 140737488355328)] (some a0)
noncomputable def M.Xi (a0 : List Yw) : Option (List Yw) :=
  gd [decide (0 = 0) || decide (0 < a0.length), decide ((0 + a0.length) * 48 ≤ 140737488355328)] (some a0)
noncomputable def M.XI (a0 : List Vo) : Option (List Vo) :=
  gd [decide (0 = 0) || decide (0 < a0.length), decide ((0 + a0.length) * 48 ≤ 140737488355328)] (some a0)
noncomputable def M.XY (a0 : List ZL) : Option (List ZL) :=
  gd [decide (0 = 0) || decide (0 < a0.length), decide ((0 + a0.length) * 16 ≤ 140737488355328)] (some a0)
noncomputable def M.XC (a0 : List V0) : Option (List V0) :=
  gd [decide (0 = 0) || decide (0 < a0.length), decide ((0 + a0.length) * 24 ≤ 140737488355328)] (some a0)
noncomputable def M.XD (a0 : List V2) : Option (List V2) :=
  gd [decide (0 = 0) || decide (0 < a0.length), decide ((0 + a0.length) * 40 ≤ 140737488355328)] (some a0)
noncomputable def M.J1 (r2 : (List Z1)) (p3 : Int) : Option (Int ⊕ Unit) :=
  bif decide (p3 < (r2.length : Int)) then none else (some (.inr ()))
noncomputable def M.J2 (r6 : (List X1)) (p7 : Int) : Option (Int ⊕ Unit) :=
  bif decide (p7 < (r6.length : Int)) then none else (some (.inr ()))
noncomputable def M.J3 (r10 : (List WD)) (p11 : Int) : Option (Int ⊕ Unit) :=
  bif decide (p11 < (r10.length : Int)) then none else (some (.inr ()))
noncomputable def M.VG (a0 : Zf) : Option Zf :=
  (M.XA a0.Zc).bind fun r1 => (M.Xv a0.Xk).bind fun r2 => (loopM (M.J1 r2) 0).bind fun y5 => (M.XH a0.Z8).bind fun r6 => (loopM (M.J2 r6) 0).bind fun y9 => (M.Yl a0.XO).bind fun r10 => (loopM (M.J3 r10) 0).bind fun y13 => (M.Xo a0.Xd).bind fun r14 => (M.Xp a0.Zq).bind fun r15 => (M.XB a0.Yi.ZK).bind fun r16 => (M.Xi a0.Yi.Zv).bind fun r17 => (M.Xi a0.YC.Zv).bind fun r18 => (M.XI a0.Xb.Zl).bind fun r19 => (M.XY a0.Xb.Zt).bind fun r20 => (M.XC a0.Xb.Zr).bind fun r21 => (M.XD a0.Xb.Zo).bind fun r22 => (M.Xi a0.Xb.Zv).bind fun r23 => some (⟨a0.ZW, a0.GN, r1, r2, r6, r10, r14, r15, (⟨a0.Yi.Wr, a0.Yi.Xj, r16, r17⟩ : We), (⟨a0.YC.Wr, a0.YC.Xj, a0.YC.VQ, a0.YC.YV, r18⟩ : Qw), (⟨a0.Xb.Wr, a0.Xb.X4, a0.Xb.X5, r19, r20, r21, r22, r23⟩ : Z4)⟩ : Zf)
noncomputable def M.JQ (r1 : (List Zf)) (p2 : (List Zf) × Int) : Option (((List Zf) × Int) ⊕ (List Zf)) :=
  bif decide (p2.2 < (r1.length : Int)) then ((M.VG (p2.1.getD (0 + p2.2.toNat) default)).bind fun r4 => gd [decide (0 ≤ p2.2), decide (p2.2 < (p2.1.length : Int)), decide (0 ≤ p2.2), decide (p2.2 < (p2.1.length : Int))] (some (.inl (p2.1.set (0 + p2.2.toNat) r4, wr .i64 (p2.2 + 1))))) else (some (.inr p2.1))
noncomputable def M.Vc (a0 : ZX) : Option ZX :=
  (M.XX a0.Zd).bind fun r1 => (loopM (M.JQ r1) (r1, 0)).bind fun y5 => some (⟨y5⟩ : ZX)
noncomputable def M.Q8 (a0 : List Int) : Option (List Int) :=
  gd [decide (0 = 0) || decide (0 < a0.length), decide ((0 + a0.length) * 8 ≤ 140737488355328)] (some a0)
noncomputable def M.W0 (a1 : List Int) (r1 : Qu × Int) (p2 : Int) : Option (Int ⊕ Unit) :=
  bif decide (p2 < (a1.length : Int)) then (gd [decide (0 ≤ p2), decide (p2 < (a1.length : Int))] (gd [guardB ((!((decide ((a1.getD p2.toNat default) < 0)) || (decide ((a1.getD p2.toNat default) ≥ (r1.1.Wy.length : Int))))) && (decide (p2 > 0))) (decide (0 ≤ (wr .i64 (p2 - 1)))), guardB ((!((decide ((a1.getD p2.toNat default) < 0)) || (decide ((a1.getD p2.toNat default) ≥ (r1.1.Wy.length : Int))))) && (decide (p2 > 0))) (decide ((wr .i64 (p2 - 1)) < (a1.length : Int)))] (bif ((decide ((a1.getD p2.toNat default) < 0)) || (decide ((a1.getD p2.toNat default) ≥ (r1.1.Wy.length : Int)))) || ((decide (p2 > 0)) && (decide ((a1.getD p2.toNat default) ≤ (a1.getD (wr .i64 (p2 - 1)).toNat default)))) then none else (some (.inl (wr .i64 (p2 + 1))))))) else (some (.inr ()))
noncomputable def M.Un (a0 : ZX) (a1 : List Int) : Option (Gj × Int) :=
  (M.Wg a0).bind fun r1 => bif r1.2 != 0 then none else (bif decide ((a1.length : Int) > 2) then none else ((loopM (M.W0 a1 r1) 0).bind fun y4 => (M.Vc a0).bind fun r5 => (M.Q8 a1).bind fun r6 => some ((⟨r5, r1.1, r6⟩ : Gj), 0)))
noncomputable def M.Yk (a0 : List VS) (a1 : VS) (p1 : Int) : Option (Int ⊕ (Unit ⊕ Int)) :=
  bif decide (p1 < (a0.length : Int)) then (gd [decide (0 ≤ p1), decide (p1 < (a0.length : Int))] (bif ((a1.G8 == ((a0.getD p1.toNat default).G8)) && ((a1.QB == ((a0.getD p1.toNat default).QB)) && true)) then (some (.inr (.inr p1))) else (some (.inl (wr .i64 (p1 + 1)))))) else (some (.inr (.inl ())))
noncomputable def M.Ym (a0 : List VS) (a1 : VS) : Option Int :=
  (loopM (M.Yk a0 a1) 0).bind fun y3 => Sum.elim (fun _ => some (-1)) (fun y5 => some y5) y3
noncomputable def M.X7 (a0 : List VS) (a1 : VS) : Option Bool :=
  (M.Ym a0 a1).bind fun r1 => some (decide (r1 ≥ 0))
noncomputable def M.Wv (a0 : Gj) (a1 : Int) (a2 : Int) (p1 : Int) : Option (Int ⊕ (Unit ⊕ Int)) :=
  bif decide (p1 < (a0.Ub.XT.length : Int)) then (gd [decide (0 ≤ p1), decide (p1 < (a0.Ub.XT.length : Int))] ((M.X7 ((a0.Ub.XT.getD p1.toNat default).Xf) (⟨a1, a2⟩ : VS)).bind fun r3 => bif r3 then (some (.inr (.inr p1))) else (some (.inl (wr .i64 (p1 + 1)))))) else (some (.inr (.inl ())))
noncomputable def M.Ww (a0 : Gj) (a1 : Int) (a2 : Int) : Option Int :=
  (loopM (M.Wv a0 a1 a2) 0).bind fun y4 => Sum.elim (fun _ => none) (fun y6 => some y6) y4
noncomputable def M.QL (a0 : List Int) (a1 : Int) (p1 : Int) : Option (Int ⊕ (Unit ⊕ Int)) :=
  bif decide (p1 < (a0.length : Int)) then (gd [decide (0 ≤ p1), decide (p1 < (a0.length : Int))] (bif a1 == (a0.getD p1.toNat default) then (some (.inr (.inr p1))) else (some (.inl (wr .i64 (p1 + 1)))))) else (some (.inr (.inl ())))
noncomputable def M.Qa (a0 : List Int) (a1 : Int) : Option Int :=
  (loopM (M.QL a0 a1) 0).bind fun y3 => Sum.elim (fun _ => some (-1)) (fun y5 => some y5) y3
noncomputable def M.U5 (a0 : Gj) (a1 : Int) (a2 : Int) : Option Int :=
  (M.Ww a0 a1 a2).bind fun r1 => bif decide (r1 < 0) then none else ((M.Qa a0.Ub.Wy r1).bind fun r2 => some r2)
noncomputable def M.Qf (a0 : List Int) (a1 : Int) : Option Bool :=
  (M.Qa a0 a1).bind fun r1 => some (decide (r1 ≥ 0))
noncomputable def M.U6 (a0 : Gj) (a1 : Int) (a2 : Int) : Option Bool :=
  (M.Ww a0 a1 a2).bind fun r1 => bif decide (r1 < 0) then none else ((M.U5 a0 a1 a2).bind fun r2 => (gc (!(decide (r2 < 0))) (M.Qf a0.K3 r2)).bind fun r3 => some ((decide (r2 < 0)) || (!r3)))
noncomputable def M.Ux  : Option Bool :=
  (M.WS).bind fun r1 => (M.Un r1 ([] : List Int)).bind fun r2 => (M.WS).bind fun r3 => (M.Un r3 ([0] : List Int)).bind fun r4 => (gc ((((r2.2 == 0) && (r4.2 == 0)) && ((r2.1.Ub.XT.length : Int) == 2)) && ((r2.1.Ub.Wy.length : Int) == 1)) (M.U6 r2.1 0 0)).bind fun r5 => (gc (((((r2.2 == 0) && (r4.2 == 0)) && ((r2.1.Ub.XT.length : Int) == 2)) && ((r2.1.Ub.Wy.length : Int) == 1)) && r5) (M.U6 r4.1 0 0)).bind fun r6 => (gc ((((((r2.2 == 0) && (r4.2 == 0)) && ((r2.1.Ub.XT.length : Int) == 2)) && ((r2.1.Ub.Wy.length : Int) == 1)) && r5) && (!r6)) (M.U6 r4.1 1 1)).bind fun r7 => some (((((((r2.2 == 0) && (r4.2 == 0)) && ((r2.1.Ub.XT.length : Int) == 2)) && ((r2.1.Ub.Wy.length : Int) == 1)) && r5) && (!r6)) && r7)
noncomputable def M.U7 (a0 : ZX) : Option Bool :=
  (M.VL a0).bind fun r1 => bif !r1 then (some true) else ((M.Wg a0).bind fun r2 => (M.Gr a0).bind fun r3 => (gc (r2.2 == r3.2) (M.WR r2.1 r3.1)).bind fun r4 => (gc ((r2.2 == r3.2) && r4) M.Ux).bind fun r5 => some (((r2.2 == r3.2) && r4) && r5))
end Nv
