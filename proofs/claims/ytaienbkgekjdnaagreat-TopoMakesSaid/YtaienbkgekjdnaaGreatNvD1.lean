/- The mirrors: what each function of the given program computes, in plain terms. -/
import Derived.Test.YtaienbkgekjdnaaGreatNvLibB
import Derived.Test.YtaienbkgekjdnaaGreatNvLibD
import Derived.Test.YtaienbkgekjdnaaGreatNvLibC
set_option maxRecDepth 100000
namespace Nv
open Go
structure ZB where
 ZJ : ByteArray
 Zy : Int
 ZK : Int
 XF : Int
 Gu : Bool
 X0 : Bool
 JW : Int
 K5 : Int
 Ya : Bool
 Vr : ByteArray
 YD : ByteArray
 Rr : Int
 deriving Inhabited
def Zn (x : ZB) : List D := [.str x.ZJ,.int .u32 x.Zy,.int .i64 x.ZK,.int .i64 x.XF,.bool x.Gu,.bool x.X0,.int .i64 x.JW,.int .i64 x.K5,.bool x.Ya,.str x.Vr,.str x.YD,.int .i64 x.Rr]
structure ZS where
 Zy : Int
 ZK : Int
 deriving Inhabited
def Xc (x : ZS) : List D := [.int .u32 x.Zy,.int .i64 x.ZK]
structure VC where
 Kt : Bool
 Zp : ZS
 Zbm : Int
 Zbn : Int
 deriving Inhabited
def Vk (x : VC) : List D := [.bool x.Kt,.int .u32 x.Zp.Zy,.int .i64 x.Zp.ZK,.int .i64 x.Zbm,.int .i64 x.Zbn]
structure ZF where
 ZJ : ByteArray
 Z0 : List VC
 deriving Inhabited
def Zv (x : ZF) : List D := [.str x.ZJ,sL 5 Vk x.Z0]
structure Ul where
 Kt : Bool
 QE : ByteArray
 UK : Int
 WB : Int
 GN : Int
 UU : Int
 UV : Int
 deriving Inhabited
def Up (x : Ul) : List D := [.bool x.Kt,.str x.QE,.int .i64 x.UK,.int .i64 x.WB,.int .i64 x.GN,.int .i64 x.UU,.int .i64 x.UV]
structure Xy where
 ZJ : ByteArray
 Z4 : List Ul
 deriving Inhabited
def ZQ (x : Xy) : List D := [.str x.ZJ,sL 7 Up x.Z4]
structure ZcP where
 Zy : Int
 U7 : Int
 deriving Inhabited
def Zi9 (x : ZcP) : List D := [.int .u32 x.Zy,.int .u32 x.U7]
structure Vd where
 Gv : Int
 G4 : Int
 deriving Inhabited
def Re (x : Vd) : List D := [.int .i64 x.Gv,.int .i64 x.G4]
structure Ku where
 Kt : Bool
 Yc : Int
 KX : ZcP
 KY : ZcP
 JR : Vd
 JS : Vd
 deriving Inhabited
def GO (x : Ku) : List D := [.bool x.Kt,.int .i64 x.Yc,.int .u32 x.KX.Zy,.int .u32 x.KX.U7,.int .u32 x.KY.Zy,.int .u32 x.KY.U7,.int .i64 x.JR.Gv,.int .i64 x.JR.G4,.int .i64 x.JS.Gv,.int .i64 x.JS.G4]
structure V2 where
 ZJ : ByteArray
 Z0 : List Ku
 deriving Inhabited
def Yq (x : V2) : List D := [.str x.ZJ,sL 10 GO x.Z0]
structure Y1 where
 JX : Int
 Qj : Int
 Yv : Int
 Yc : Int
 Qp : Int
 YO : Int
 QE : ByteArray
 Gv : Int
 G4 : Int
 deriving Inhabited
def Z8 (x : Y1) : List D := [.int .i64 x.JX,.int .u32 x.Qj,.int .u32 x.Yv,.int .i64 x.Yc,.int .i64 x.Qp,.int .i64 x.YO,.str x.QE,.int .u32 x.Gv,.int .u32 x.G4]
structure Yk where
 Zp : ZS
 Ve : Int
 Qx : ByteArray
 Vf : Bool
 Xd : Int
 UK : Int
 deriving Inhabited
def ZX (x : Yk) : List D := [.int .u32 x.Zp.Zy,.int .i64 x.Zp.ZK,.int .u32 x.Ve,.str x.Qx,.bool x.Vf,.int .i64 x.Xd,.int .i64 x.UK]
structure We where
 JW : Int
 Zp : ZS
 deriving Inhabited
def Xl (x : We) : List D := [.int .i64 x.JW,.int .u32 x.Zp.Zy,.int .i64 x.Zp.ZK]
structure Yi where
 WT : Int
 Kv : Int
 UK : Int
 Rs : ByteArray
 Ke : Int
 deriving Inhabited
def Zx (x : Yi) : List D := [.int .i64 x.WT,.int .i64 x.Kv,.int .i64 x.UK,.str x.Rs,.int .i64 x.Ke]
structure WC where
 Va : Bool
 Xd : Int
 ZE : List We
 Zs : List Yi
 deriving Inhabited
def Rf (x : WC) : List D := [.bool x.Va,.int .i64 x.Xd,sL 3 Xl x.ZE,sL 5 Zx x.Zs]
structure QF where
 Va : Bool
 Xd : Int
 Vr : ByteArray
 YD : ByteArray
 Zs : List Yi
 deriving Inhabited
def Zek (x : QF) : List D := [.bool x.Va,.int .i64 x.Xd,.str x.Vr,.str x.YD,sL 5 Zx x.Zs]
structure VH where
 Zy : Int
 GA : Int
 Vr : ByteArray
 YD : ByteArray
 deriving Inhabited
def Xu (x : VH) : List D := [.int .u32 x.Zy,.int .i64 x.GA,.str x.Vr,.str x.YD]
structure Wf where
 Zp : ZS
 Zmr : Bool
 deriving Inhabited
def Xm (x : Wf) : List D := [.int .u32 x.Zp.Zy,.int .i64 x.Zp.ZK,.bool x.Zmr]
structure Wg where
 Zp : ZS
 fIf : ZS
 Zib : Bool
 deriving Inhabited
def Xk (x : Wg) : List D := [.int .u32 x.Zp.Zy,.int .i64 x.Zp.ZK,.int .u32 x.fIf.Zy,.int .i64 x.fIf.ZK,.bool x.Zib]
structure Xg where
 Va : Bool
 XN : Int
 XO : Int
 Zk : List VH
 Zt : List ZS
 Zq : List Wf
 Zm : List Wg
 Zs : List Yi
 deriving Inhabited
def W4 (x : Xg) : List D := [.bool x.Va,.int .i64 x.XN,.int .i64 x.XO,sL 4 Xu x.Zk,sL 2 Xc x.Zt,sL 3 Xm x.Zq,sL 5 Xk x.Zm,sL 5 Zx x.Zs]
structure Zf where
 ZJ : ByteArray
 GA : Int
 Zc : List ZB
 Z1 : List ZF
 ZR : List Xy
 Xh : List V2
 Xf : List Y1
 Zr : List Yk
 X0 : WC
 Ya : QF
 ZW : Xg
 deriving Inhabited
def Zu (x : Zf) : List D := [.str x.ZJ,.int .i64 x.GA,sL 12 Zn x.Zc,sL 2 Zv x.Z1,sL 2 ZQ x.ZR,sL 2 Yq x.Xh,sL 9 Z8 x.Xf,sL 7 ZX x.Zr,.bool x.X0.Va,.int .i64 x.X0.Xd,sL 3 Xl x.X0.ZE,sL 5 Zx x.X0.Zs,.bool x.Ya.Va,.int .i64 x.Ya.Xd,.str x.Ya.Vr,.str x.Ya.YD,sL 5 Zx x.Ya.Zs,.bool x.ZW.Va,.int .i64 x.ZW.XN,.int .i64 x.ZW.XO,sL 4 Xu x.ZW.Zk,sL 2 Xc x.ZW.Zt,sL 3 Xm x.ZW.Zq,sL 5 Xk x.ZW.Zm,sL 5 Zx x.ZW.Zs]
structure ZG where
 Ze : List Zf
 deriving Inhabited
def X3 (x : ZG) : List D := [sL 25 Zu x.Ze]
structure V8 where
 KQ : Int
 Qx : Int
 deriving Inhabited
def XE (x : V8) : List D := [.int .i64 x.KQ,.int .i64 x.Qx]
structure Zl where
 Zp : ZS
 XF : Int
 Xo : List V8
 deriving Inhabited
def ZT (x : Zl) : List D := [.int .u32 x.Zp.Zy,.int .i64 x.Zp.ZK,.int .i64 x.XF,sL 2 XE x.Xo]
structure Yl where
 XQ : List Zl
 Js : List Int
 deriving Inhabited
def Wr (x : Yl) : List D := [sL 4 ZT x.XQ,sL 1 (ci .i64) x.Js]
structure WG where
 Zfs : ZG
 Ws : Yl
 Gu : List Int
 deriving Inhabited
def Gw (x : WG) : List D := [sL 25 Zu x.Zfs.Ze,sL 4 ZT x.Ws.XQ,sL 1 (ci .i64) x.Ws.Js,sL 1 (ci .i64) x.Gu]
structure Xi where
 R1 : ZS
 Zko : Int
 deriving Inhabited
def Xs (x : Xi) : List D := [.int .u32 x.R1.Zy,.int .i64 x.R1.ZK,.int .i64 x.Zko]
def topoKeyEq (a b : Xi) : Bool := (((a.R1.Zy == b.R1.Zy) && ((a.R1.ZK == b.R1.ZK) && true)) && ((a.Zko == b.Zko) && true))
def hdDom (x : Zl) : List D := [.int .u32 x.Zp.Zy,.int .i64 x.Zp.ZK,.int .i64 x.XF]
noncomputable def M.WH (a0 : Zf) (p1 : Int) : Option (Int ⊕ (Unit ⊕ Bool)) :=
 bif decide (p1 < (a0.Z1.length : Int)) then (gd [decide (0 ≤ p1),decide (p1 < (a0.Z1.length : Int))] (bif decide ((((a0.Z1.getD p1.toNat default).Z0).length : Int) > 20) then (some (.inr (.inr false))) else (some (.inl (wr .i64 (p1 + 1)))))) else (some (.inr (.inl ())))
noncomputable def M.WI (a0 : Zf) (p6 : Int) : Option (Int ⊕ (Unit ⊕ Bool)) :=
 bif decide (p6 < (a0.ZR.length : Int)) then (gd [decide (0 ≤ p6),decide (p6 < (a0.ZR.length : Int))] (bif decide ((((a0.ZR.getD p6.toNat default).Z4).length : Int) > 12) then (some (.inr (.inr false))) else (some (.inl (wr .i64 (p6 + 1)))))) else (some (.inr (.inl ())))
noncomputable def M.WJ (a0 : Zf) (p11 : Int) : Option (Int ⊕ (Unit ⊕ Bool)) :=
 bif decide (p11 < (a0.Xh.length : Int)) then (gd [decide (0 ≤ p11),decide (p11 < (a0.Xh.length : Int))] (bif decide ((((a0.Xh.getD p11.toNat default).Z0).length : Int) > 20) then (some (.inr (.inr false))) else (some (.inl (wr .i64 (p11 + 1)))))) else (some (.inr (.inl ())))
noncomputable def M.VX (a0 : Zf) : Option Bool :=
 bif (((((((((((((decide ((a0.Zc.length : Int) > 12)) || (decide ((a0.Z1.length : Int) > 12))) || (decide ((a0.ZR.length : Int) > 12))) || (decide ((a0.Xh.length : Int) > 12))) || (decide ((a0.Xf.length : Int) > 12))) || (decide ((a0.Zr.length : Int) > 20))) || (decide ((a0.X0.ZE.length : Int) > 8))) || (decide ((a0.X0.Zs.length : Int) > 8))) || (decide ((a0.Ya.Zs.length : Int) > 8))) || (decide ((a0.ZW.Zs.length : Int) > 8))) || (decide ((a0.ZW.Zk.length : Int) > 12))) || (decide ((a0.ZW.Zt.length : Int) > 12))) || (decide ((a0.ZW.Zq.length : Int) > 12))) || (decide ((a0.ZW.Zm.length : Int) > 12)) then (some false) else ((loopM (M.WH a0) 0).bind fun y3 => Sum.elim (fun _ => (loopM (M.WI a0) 0).bind fun y8 => Sum.elim (fun _ => (loopM (M.WJ a0) 0).bind fun y13 => Sum.elim (fun _ => some true) (fun y15 => some y15) y13) (fun y10 => some y10) y8) (fun y5 => some y5) y3)
noncomputable def M.Y4 (a0 : ZG) (p1 : Int) : Option (Int ⊕ (Unit ⊕ Bool)) :=
 bif decide (p1 < (a0.Ze.length : Int)) then ((M.VX (a0.Ze.getD p1.toNat default)).bind fun r3 => gd [decide (0 ≤ p1),decide (p1 < (a0.Ze.length : Int))] (bif !r3 then (some (.inr (.inr false))) else (some (.inl (wr .i64 (p1 + 1)))))) else (some (.inr (.inl ())))
noncomputable def M.VD (a0 : ZG) : Option Bool :=
 bif decide ((a0.Ze.length : Int) > 9) then (some false) else ((loopM (M.Y4 a0) 0).bind fun y4 => Sum.elim (fun _ => some true) (fun y6 => some y6) y4)
noncomputable def M.V3 (a0 : Int) : Option Bool :=
 some (((decide (65 ≤ a0)) && (decide (a0 ≤ 90))) || ((decide (97 ≤ a0)) && (decide (a0 ≤ 122))))
noncomputable def M.UE (a0 : Int) : Option Bool :=
 some ((decide (48 ≤ a0)) && (decide (a0 ≤ 57)))
noncomputable def M.Wh (a0 : ByteArray) (p2 : Int) : Option (Int ⊕ (Unit ⊕ Bool)) :=
 bif decide (p2 < (a0.size : Int)) then (gd [decide (0 ≤ p2),decide (p2 < (a0.size : Int))] ((M.V3 (byteAt a0 p2)).bind fun r4 => (gc (!r4) (M.UE (byteAt a0 p2))).bind fun r5 => bif (((((!r4) && (!r5)) && ((byteAt a0 p2) != 45)) && ((byteAt a0 p2) != 95)) && ((byteAt a0 p2) != 47)) && ((byteAt a0 p2) != 46) then (some (.inr (.inr false))) else (some (.inl (wr .i64 (p2 + 1)))))) else (some (.inr (.inl ())))
noncomputable def M.WD (a0 : ByteArray) : Option Bool :=
 (gc (!((decide ((a0.size : Int) < 1)) || (decide ((a0.size : Int) > 15)))) (M.V3 (byteAt a0 0))).bind fun r1 => gd [guardB (!((decide ((a0.size : Int) < 1)) || (decide ((a0.size : Int) > 15)))) (decide (0 ≤ 0)),guardB (!((decide ((a0.size : Int) < 1)) || (decide ((a0.size : Int) > 15)))) (decide (0 < (a0.size : Int)))] (bif ((decide ((a0.size : Int) < 1)) || (decide ((a0.size : Int) > 15))) || (!r1) then (some false) else ((loopM (M.Wh a0) 1).bind fun y6 => Sum.elim (fun _ => some true) (fun y8 => some y8) y6))
noncomputable def M.ZZ (a0 : Int) (a1 : Int) (a2 : Int) : Option Bool :=
 some ((decide (a1 ≤ a0)) && (decide (a0 ≤ a2)))
noncomputable def M.JI (a0 : ZB) (b0 : ByteArray) : Option Bool :=
 some (strEq a0.ZJ b0)
noncomputable def M.ZI (a0 : List ZB) (a1c0 : ByteArray) (p1 : Int) : Option (Int ⊕ (Unit ⊕ Int)) :=
 bif decide (p1 < (a0.length : Int)) then ((M.JI (a0.getD p1.toNat default) a1c0).bind fun r3 => gd [decide (0 ≤ p1),decide (p1 < (a0.length : Int))] (bif r3 then (some (.inr (.inr p1))) else (some (.inl (wr .i64 (p1 + 1)))))) else (some (.inr (.inl ())))
noncomputable def M.ZM (a0 : List ZB) (a1c0 : ByteArray) : Option Int :=
 (loopM (M.ZI a0 a1c0) 0).bind fun y4 => Sum.elim (fun _ => some (-1)) (fun y6 => some y6) y4
noncomputable def M.Qn (a0 : Zf) (a1 : ByteArray) : Option Int :=
 (M.ZM a0.Zc a1).bind fun r1 => some r1
noncomputable def M.Qy (a0 : ZB) : Option Bool :=
 (M.ZZ a0.ZK 0 32).bind fun r1 => (gc (!(!r1)) (M.ZZ a0.XF 0 4094)).bind fun r2 => (gc (!((!r1) || (!r2))) (M.ZZ a0.Rr 0 2)).bind fun r3 => bif ((!r1) || (!r2)) || (!r3) then (some false) else (bif (a0.ZK == 0) && (((((((a0.Zy != 0) || (a0.XF != 0)) || (a0.Rr != 0)) || a0.X0) || a0.Ya) || (!strEq a0.Vr (⟨#[]⟩ : ByteArray))) || (!strEq a0.YD (⟨#[]⟩ : ByteArray))) then (some false) else (bif (a0.ZK != 0) && (a0.Zy == 0) then (some false) else (bif a0.X0 then ((M.ZZ a0.JW 0 255).bind fun r4 => (gc r4 (M.ZZ a0.K5 1 65535)).bind fun r5 => some (r4 && r5)) else (some ((a0.JW == 0) && (a0.K5 == 0))))))
noncomputable def M.JT (a0 : Int) : Option Int :=
 some (if (if 32 < a0 then 32 else a0) > 0 then (if 32 < a0 then 32 else a0) else 0)
noncomputable def M.Vb (a0 : Int) : Option Int :=
 (M.JT a0).bind fun r1 => gd [decide (0 ≤ (wr .i64 (32 - r1)))] (some (wr .u32 (4294967295 * 2 ^ min (wr .i64 (32 - r1)).toNat 32)))
noncomputable def M.Y2 (a0 : Int) (a1 : Int) : Option ZS :=
 (M.Vb a1).bind fun r1 => (M.JT a1).bind fun r2 => some (⟨bitD .and .u32 a0 r1,r2⟩ : ZS)
noncomputable def M.WK (a0 : ZS) (a1 : Int) : Option Bool :=
 (M.Vb a0.ZK).bind fun r1 => some ((bitD .and .u32 a1 r1) == a0.Zy)
noncomputable def M.WP (a0 : ZS) (a1 : ZS) : Option Bool :=
 (gc (decide (a0.ZK ≤ a1.ZK)) (M.WK a0 a1.Zy)).bind fun r1 => some ((decide (a0.ZK ≤ a1.ZK)) && r1)
noncomputable def M.Vl (a0 : ZS) (a1 : ZS) : Option Bool :=
 (M.WP a0 a1).bind fun r1 => (gc (!r1) (M.WP a1 a0)).bind fun r2 => some (r1 || r2)
noncomputable def M.Yr (a0 : Zf) (p1 : Int) (p6 : Int) : Option (Int ⊕ (Unit ⊕ Int)) :=
 bif decide (p6 < ((p1.toNat - 0 : Nat) : Int)) then (gd [decide (0 ≤ p6),decide (p6 < (((a0.Zc.drop 0).take (p1.toNat - 0)).length : Int))] ((gc ((((a0.Zc.getD p1.toNat default).ZK) != 0) && (((((a0.Zc.drop 0).take (p1.toNat - 0)).getD p6.toNat default).ZK) != 0)) (M.Y2 ((a0.Zc.getD p1.toNat default).Zy) ((a0.Zc.getD p1.toNat default).ZK))).bind fun r8 => (gc ((((a0.Zc.getD p1.toNat default).ZK) != 0) && (((((a0.Zc.drop 0).take (p1.toNat - 0)).getD p6.toNat default).ZK) != 0)) (M.Y2 ((((a0.Zc.drop 0).take (p1.toNat - 0)).getD p6.toNat default).Zy) ((((a0.Zc.drop 0).take (p1.toNat - 0)).getD p6.toNat default).ZK))).bind fun r9 => (gc ((((a0.Zc.getD p1.toNat default).ZK) != 0) && (((((a0.Zc.drop 0).take (p1.toNat - 0)).getD p6.toNat default).ZK) != 0)) (M.Vl r8 r9)).bind fun r10 => bif ((((a0.Zc.getD p1.toNat default).ZK) != 0) && (((((a0.Zc.drop 0).take (p1.toNat - 0)).getD p6.toNat default).ZK) != 0)) && r10 then (some (.inr (.inr 6))) else (some (.inl (wr .i64 (p6 + 1)))))) else (some (.inr (.inl ())))
noncomputable def M.YG (a0 : Zf) (p1 : Int) : Option (Int ⊕ (Unit ⊕ Int)) :=
 bif decide (p1 < (a0.Zc.length : Int)) then (gd [decide (0 ≤ p1),decide (p1 < (a0.Zc.length : Int))] ((M.WD ((a0.Zc.getD p1.toNat default).ZJ)).bind fun r3 => bif !r3 then (some (.inr (.inr 3))) else ((M.Qn a0 ((a0.Zc.getD p1.toNat default).ZJ)).bind fun r4 => bif decide (r4 < p1) then (some (.inr (.inr 4))) else ((M.Qy (a0.Zc.getD p1.toNat default)).bind fun r5 => bif !r5 then (some (.inr (.inr 1))) else (gd [decide (0 ≤ p1),decide (p1 ≤ (a0.Zc.length : Int))] ((loopM (M.Yr a0 p1) 0).bind fun y11 => Sum.elim (fun _ => some (.inl (wr .i64 (p1 + 1)))) (fun y13 => some (.inr (.inr y13))) y11)))))) else (some (.inr (.inl ())))
noncomputable def M.YQ (a0 : Zf) : Option Int :=
 bif decide ((a0.Zc.length : Int) > 8) then (some 7) else ((loopM (M.YG a0) 0).bind fun y14 => Sum.elim (fun _ => some 0) (fun y16 => some y16) y14)
noncomputable def M.JU (a0 : ZF) (b0 : ByteArray) : Option Bool :=
 some (strEq a0.ZJ b0)
noncomputable def M.ZN (a0 : List ZF) (a1c0 : ByteArray) (p1 : Int) : Option (Int ⊕ (Unit ⊕ Int)) :=
 bif decide (p1 < (a0.length : Int)) then ((M.JU (a0.getD p1.toNat default) a1c0).bind fun r3 => gd [decide (0 ≤ p1),decide (p1 < (a0.length : Int))] (bif r3 then (some (.inr (.inr p1))) else (some (.inl (wr .i64 (p1 + 1)))))) else (some (.inr (.inl ())))
noncomputable def M.ZU (a0 : List ZF) (a1c0 : ByteArray) : Option Int :=
 (loopM (M.ZN a0 a1c0) 0).bind fun y4 => Sum.elim (fun _ => some (-1)) (fun y6 => some y6) y4
noncomputable def M.Yy (a0 : Zf) (a1 : ByteArray) : Option Int :=
 (M.ZU a0.Z1 a1).bind fun r1 => some r1
noncomputable def M.YZ (a0 : Int) (a1 : Int) (a2 : ByteArray) (a3 : Int) (a4 : Int) : Option Int :=
 (M.WD a2).bind fun r1 => bif !r1 then (some 3) else (bif decide (a1 < a0) then (some 4) else (bif a3 == 0 then (some 1) else (bif decide (a3 > a4) then (some 7) else (some 0))))
noncomputable def M.QZ (a0 : ZS) : Option Bool :=
 (gc ((decide (a0.ZK ≥ 0)) && (decide (a0.ZK ≤ 32))) (M.Vb a0.ZK)).bind fun r1 => some (((decide (a0.ZK ≥ 0)) && (decide (a0.ZK ≤ 32))) && ((bitD .andNot .u32 a0.Zy r1) == 0))
noncomputable def M.Ym (a0 : Zf) (p1 : Int) (p5 : Int) : Option (Int ⊕ (Unit ⊕ Int)) :=
 bif decide (p5 < (((a0.Z1.getD p1.toNat default).Z0).length : Int)) then (gd [decide (0 ≤ p5),decide (p5 < (((a0.Z1.getD p1.toNat default).Z0).length : Int))] ((M.QZ ((((a0.Z1.getD p1.toNat default).Z0).getD p5.toNat default).Zp)).bind fun r7 => bif (((!r7) || (decide (((((a0.Z1.getD p1.toNat default).Z0).getD p5.toNat default).Zbm) < (((((a0.Z1.getD p1.toNat default).Z0).getD p5.toNat default).Zp).ZK)))) || (decide (((((a0.Z1.getD p1.toNat default).Z0).getD p5.toNat default).Zbn) < ((((a0.Z1.getD p1.toNat default).Z0).getD p5.toNat default).Zbm)))) || (decide (((((a0.Z1.getD p1.toNat default).Z0).getD p5.toNat default).Zbn) > 32)) then (some (.inr (.inr 1))) else (some (.inl (wr .i64 (p5 + 1)))))) else (some (.inr (.inl ())))
noncomputable def M.Yw (a0 : Zf) (p1 : Int) : Option (Int ⊕ (Unit ⊕ Int)) :=
 bif decide (p1 < (a0.Z1.length : Int)) then (gd [decide (0 ≤ p1),decide (p1 < (a0.Z1.length : Int))] ((M.Yy a0 ((a0.Z1.getD p1.toNat default).ZJ)).bind fun r3 => (M.YZ p1 r3 ((a0.Z1.getD p1.toNat default).ZJ) (((a0.Z1.getD p1.toNat default).Z0).length : Int) 16).bind fun r4 => bif r4 != 0 then (some (.inr (.inr r4))) else ((loopM (M.Ym a0 p1) 0).bind fun y8 => Sum.elim (fun _ => some (.inl (wr .i64 (p1 + 1)))) (fun y10 => some (.inr (.inr y10))) y8))) else (some (.inr (.inl ())))
noncomputable def M.YH (a0 : Zf) : Option Int :=
 bif decide ((a0.Z1.length : Int) > 8) then (some 7) else ((loopM (M.Yw a0) 0).bind fun y11 => Sum.elim (fun _ => some 0) (fun y13 => some y13) y11)
noncomputable def M.Vu (a0 : Xy) (b0 : ByteArray) : Option Bool :=
 some (strEq a0.ZJ b0)
noncomputable def M.Z5 (a0 : List Xy) (a1c0 : ByteArray) (p1 : Int) : Option (Int ⊕ (Unit ⊕ Int)) :=
 bif decide (p1 < (a0.length : Int)) then ((M.Vu (a0.getD p1.toNat default) a1c0).bind fun r3 => gd [decide (0 ≤ p1),decide (p1 < (a0.length : Int))] (bif r3 then (some (.inr (.inr p1))) else (some (.inl (wr .i64 (p1 + 1)))))) else (some (.inr (.inl ())))
noncomputable def M.Z9 (a0 : List Xy) (a1c0 : ByteArray) : Option Int :=
 (loopM (M.Z5 a0 a1c0) 0).bind fun y4 => Sum.elim (fun _ => some (-1)) (fun y6 => some y6) y4
noncomputable def M.Y5 (a0 : Zf) (a1 : ByteArray) : Option Int :=
 (M.Z9 a0.ZR a1).bind fun r1 => some r1
noncomputable def M.Q8 (a0 : Ul) : Option Bool :=
 (M.ZZ a0.UK (-1) 65535).bind fun r1 => (gc r1 (M.ZZ a0.WB (-1) 16777215)).bind fun r2 => (gc (r1 && r2) (M.ZZ a0.GN (-1) 65535)).bind fun r3 => (gc ((r1 && r2) && r3) (M.ZZ a0.UU (-1) 1000000)).bind fun r4 => (gc (((r1 && r2) && r3) && r4) (M.ZZ a0.UV 0 8)).bind fun r5 => some ((((r1 && r2) && r3) && r4) && r5)
noncomputable def M.Yz (a0 : Zf) (p1 : Int) (p5 : Int) : Option (Int ⊕ (Unit ⊕ Int)) :=
 bif decide (p5 < (((a0.ZR.getD p1.toNat default).Z4).length : Int)) then (gd [decide (0 ≤ p5),decide (p5 < (((a0.ZR.getD p1.toNat default).Z4).length : Int))] ((gc (!strEq ((((a0.ZR.getD p1.toNat default).Z4).getD p5.toNat default).QE) (⟨#[]⟩ : ByteArray)) (M.Yy a0 ((((a0.ZR.getD p1.toNat default).Z4).getD p5.toNat default).QE))).bind fun r7 => bif (!strEq ((((a0.ZR.getD p1.toNat default).Z4).getD p5.toNat default).QE) (⟨#[]⟩ : ByteArray)) && (decide (r7 < 0)) then (some (.inr (.inr 5))) else ((M.Q8 (((a0.ZR.getD p1.toNat default).Z4).getD p5.toNat default)).bind fun r8 => bif !r8 then (some (.inr (.inr 1))) else (some (.inl (wr .i64 (p5 + 1))))))) else (some (.inr (.inl ())))
noncomputable def M.YK (a0 : Zf) (p1 : Int) : Option (Int ⊕ (Unit ⊕ Int)) :=
 bif decide (p1 < (a0.ZR.length : Int)) then (gd [decide (0 ≤ p1),decide (p1 < (a0.ZR.length : Int))] ((M.Y5 a0 ((a0.ZR.getD p1.toNat default).ZJ)).bind fun r3 => (M.YZ p1 r3 ((a0.ZR.getD p1.toNat default).ZJ) (((a0.ZR.getD p1.toNat default).Z4).length : Int) 8).bind fun r4 => bif r4 != 0 then (some (.inr (.inr r4))) else ((loopM (M.Yz a0 p1) 0).bind fun y9 => Sum.elim (fun _ => some (.inl (wr .i64 (p1 + 1)))) (fun y11 => some (.inr (.inr y11))) y9))) else (some (.inr (.inl ())))
noncomputable def M.Y6 (a0 : Zf) : Option Int :=
 bif decide ((a0.ZR.length : Int) > 8) then (some 7) else ((loopM (M.YK a0) 0).bind fun y12 => Sum.elim (fun _ => some 0) (fun y14 => some y14) y12)
noncomputable def M.Ur (a0 : V2) (b0 : ByteArray) : Option Bool :=
 some (strEq a0.ZJ b0)
noncomputable def M.Xr (a0 : List V2) (a1c0 : ByteArray) (p1 : Int) : Option (Int ⊕ (Unit ⊕ Int)) :=
 bif decide (p1 < (a0.length : Int)) then ((M.Ur (a0.getD p1.toNat default) a1c0).bind fun r3 => gd [decide (0 ≤ p1),decide (p1 < (a0.length : Int))] (bif r3 then (some (.inr (.inr p1))) else (some (.inl (wr .i64 (p1 + 1)))))) else (some (.inr (.inl ())))
noncomputable def M.Xx (a0 : List V2) (a1c0 : ByteArray) : Option Int :=
 (loopM (M.Xr a0 a1c0) 0).bind fun y4 => Sum.elim (fun _ => some (-1)) (fun y6 => some y6) y4
noncomputable def M.V4 (a0 : Zf) (a1 : ByteArray) : Option Int :=
 (M.Xx a0.Xh a1).bind fun r1 => some r1
noncomputable def M.Q0 (a0 : Vd) : Option Bool :=
 some (((decide (0 ≤ a0.Gv)) && (decide (a0.Gv ≤ a0.G4))) && (decide (a0.G4 ≤ 65535)))
noncomputable def M.JY (a0 : Ku) : Option Bool :=
 (M.ZZ a0.Yc (-1) 255).bind fun r1 => bif ((!r1) || ((bitD .and .u32 a0.KX.Zy a0.KX.U7) != 0)) || ((bitD .and .u32 a0.KY.Zy a0.KY.U7) != 0) then (some false) else ((M.Q0 a0.JR).bind fun r2 => (gc (!(!r2)) (M.Q0 a0.JS)).bind fun r3 => bif (!r2) || (!r3) then (some false) else (some (((a0.Yc == 6) || (a0.Yc == 17)) || (((a0.JR.Gv == 0) && ((a0.JR.G4 == 65535) && true)) && ((a0.JS.Gv == 0) && ((a0.JS.G4 == 65535) && true))))))
noncomputable def M.QL (a0 : Zf) (p1 : Int) (p5 : Int) : Option (Int ⊕ (Unit ⊕ Int)) :=
 bif decide (p5 < (((a0.Xh.getD p1.toNat default).Z0).length : Int)) then (gd [decide (0 ≤ p5),decide (p5 < (((a0.Xh.getD p1.toNat default).Z0).length : Int))] ((M.JY (((a0.Xh.getD p1.toNat default).Z0).getD p5.toNat default)).bind fun r7 => bif !r7 then (some (.inr (.inr 1))) else (some (.inl (wr .i64 (p5 + 1)))))) else (some (.inr (.inl ())))
noncomputable def M.Jm (a0 : Zf) (p1 : Int) : Option (Int ⊕ (Unit ⊕ Int)) :=
 bif decide (p1 < (a0.Xh.length : Int)) then (gd [decide (0 ≤ p1),decide (p1 < (a0.Xh.length : Int))] ((M.V4 a0 ((a0.Xh.getD p1.toNat default).ZJ)).bind fun r3 => (M.YZ p1 r3 ((a0.Xh.getD p1.toNat default).ZJ) (((a0.Xh.getD p1.toNat default).Z0).length : Int) 16).bind fun r4 => bif r4 != 0 then (some (.inr (.inr r4))) else ((loopM (M.QL a0 p1) 0).bind fun y8 => Sum.elim (fun _ => some (.inl (wr .i64 (p1 + 1)))) (fun y10 => some (.inr (.inr y10))) y8))) else (some (.inr (.inl ())))
noncomputable def M.JZ (a0 : Zf) : Option Int :=
 bif decide ((a0.Xh.length : Int) > 8) then (some 7) else ((loopM (M.Jm a0) 0).bind fun y11 => Sum.elim (fun _ => some 0) (fun y13 => some y13) y11)
noncomputable def M.Y3 (a0 : Y1) : Option Bool :=
 bif a0.JX == 1 then (some ((((a0.JX == a0.JX) && ((a0.Qj == a0.Qj) && ((a0.Yv == a0.Yv) && ((a0.Yc == 0) && ((a0.Qp == 0) && ((a0.YO == 0) && (strEq a0.QE (⟨#[]⟩ : ByteArray) && ((a0.Gv == 0) && ((a0.G4 == 0) && true))))))))) && (a0.Qj != 0)) && (a0.Yv != 0))) else (bif a0.JX == 2 then (some (((((a0.JX == a0.JX) && ((a0.Qj == 0) && ((a0.Yv == 0) && ((a0.Yc == 0) && ((a0.Qp == 0) && ((a0.YO == 0) && (strEq a0.QE a0.QE && ((a0.Gv == a0.Gv) && ((a0.G4 == a0.G4) && true))))))))) && (a0.Gv != 0)) && (decide (a0.Gv ≤ a0.G4))) && (decide ((wr .u32 (a0.G4 - a0.Gv)) < 8)))) else (bif a0.JX == 3 then ((gc (((a0.Qj != 0) && (a0.Yv != 0)) && ((a0.Yc == 6) || (a0.Yc == 17))) (M.ZZ a0.Qp 0 65535)).bind fun r1 => (gc ((((a0.Qj != 0) && (a0.Yv != 0)) && ((a0.Yc == 6) || (a0.Yc == 17))) && r1) (M.ZZ a0.YO 0 65535)).bind fun r2 => some ((((((((a0.Qj != 0) && (a0.Yv != 0)) && ((a0.Yc == 6) || (a0.Yc == 17))) && r1) && r2) && (strEq a0.QE (⟨#[]⟩ : ByteArray))) && (a0.Gv == 0)) && (a0.G4 == 0))) else (some false)))
noncomputable def M.JJ (a0 : Zf) (p1 : Int) : Option (Int ⊕ (Unit ⊕ Int)) :=
 bif decide (p1 < (a0.Xf.length : Int)) then (gd [decide (0 ≤ p1),decide (p1 < (a0.Xf.length : Int))] ((M.Y3 (a0.Xf.getD p1.toNat default)).bind fun r3 => bif !r3 then (some (.inr (.inr 1))) else ((gc (((a0.Xf.getD p1.toNat default).JX) == 2) (M.V4 a0 ((a0.Xf.getD p1.toNat default).QE))).bind fun r4 => bif (((a0.Xf.getD p1.toNat default).JX) == 2) && (decide (r4 < 0)) then (some (.inr (.inr 5))) else (some (.inl (wr .i64 (p1 + 1))))))) else (some (.inr (.inl ())))
noncomputable def M.Vg (a0 : Zf) : Option Int :=
 bif decide ((a0.Xf.length : Int) > 8) then (some 7) else ((loopM (M.JJ a0) 0).bind fun y5 => Sum.elim (fun _ => some 0) (fun y7 => some y7) y5)
noncomputable def M.QT (a0 : Zf) (p1 : Int) : Option (Int ⊕ (Unit ⊕ Int)) :=
 bif decide (p1 < (a0.Zc.length : Int)) then (gd [decide (0 ≤ p1),decide (p1 < (a0.Zc.length : Int))] ((gc (!strEq ((a0.Zc.getD p1.toNat default).Vr) (⟨#[]⟩ : ByteArray)) (M.V4 a0 ((a0.Zc.getD p1.toNat default).Vr))).bind fun r3 => (gc ((!((!strEq ((a0.Zc.getD p1.toNat default).Vr) (⟨#[]⟩ : ByteArray)) && (decide (r3 < 0)))) && (!strEq ((a0.Zc.getD p1.toNat default).YD) (⟨#[]⟩ : ByteArray))) (M.V4 a0 ((a0.Zc.getD p1.toNat default).YD))).bind fun r4 => bif ((!strEq ((a0.Zc.getD p1.toNat default).Vr) (⟨#[]⟩ : ByteArray)) && (decide (r3 < 0))) || ((!strEq ((a0.Zc.getD p1.toNat default).YD) (⟨#[]⟩ : ByteArray)) && (decide (r4 < 0))) then (some (.inr (.inr 5))) else (some (.inl (wr .i64 (p1 + 1)))))) else (some (.inr (.inl ())))
noncomputable def M.Jn (a0 : Zf) : Option Int :=
 (loopM (M.QT a0) 0).bind fun y5 => Sum.elim (fun _ => some 0) (fun y7 => some y7) y5
noncomputable def M.VS (a0 : ZB) (b0 : Int) : Option Bool :=
 some ((a0.ZK != 0) && (a0.Zy == b0))
noncomputable def M.Z2 (a0 : List ZB) (a1c0 : Int) (p1 : Int) : Option (Int ⊕ (Unit ⊕ Int)) :=
 bif decide (p1 < (a0.length : Int)) then ((M.VS (a0.getD p1.toNat default) a1c0).bind fun r3 => gd [decide (0 ≤ p1),decide (p1 < (a0.length : Int))] (bif r3 then (some (.inr (.inr p1))) else (some (.inl (wr .i64 (p1 + 1)))))) else (some (.inr (.inl ())))
noncomputable def M.Z7 (a0 : List ZB) (a1c0 : Int) : Option Int :=
 (loopM (M.Z2 a0 a1c0) 0).bind fun y4 => Sum.elim (fun _ => some (-1)) (fun y6 => some y6) y4
noncomputable def M.Vm (a0 : Zf) (a1 : Int) : Option Int :=
 (M.Z7 a0.Zc a1).bind fun r1 => some r1
noncomputable def M.YJ (p1 : Int × Int) (p3 : Int) : Option ((Int × Int) ⊕ Int) :=
 some (.inl (p3,wr .i64 (p1.2 + 1)))
noncomputable def M.Y7 (a1 : Yk) (p1 : Int × Int) : Option ((Int × Int) ⊕ Int) :=
 bif decide (p1.2 < 3) then (gd [decide (0 ≤ p1.2),decide (p1.2 < (([a1.Ve != 0,!strEq a1.Qx (⟨#[]⟩ : ByteArray),a1.Vf] : List Bool).length : Int))] (bif ([a1.Ve != 0,!strEq a1.Qx (⟨#[]⟩ : ByteArray),a1.Vf] : List Bool).getD p1.2.toNat default then (M.YJ p1 (wr .i64 (p1.1 + 1))) else (M.YJ p1 p1.1))) else (some (.inr p1.1))
noncomputable def M.QG (a0 : Zf) (a1 : Yk) : Option Bool :=
 (loopM (M.Y7 a1) (0,0)).bind fun y4 => (M.QZ a1.Zp).bind fun r5 => (gc ((r5 && (y4 == 1)) && !(a1.Ve == 0)) (M.Vm a0 a1.Ve)).bind fun r6 => (gc ((r5 && (y4 == 1)) && ((a1.Ve == 0) || (decide (r6 < 0)))) (M.ZZ a1.Xd 1 255)).bind fun r7 => (gc (((r5 && (y4 == 1)) && ((a1.Ve == 0) || (decide (r6 < 0)))) && r7) (M.ZZ a1.UK 0 65535)).bind fun r8 => some ((((r5 && (y4 == 1)) && ((a1.Ve == 0) || (decide (r6 < 0)))) && r7) && r8)
noncomputable def M.YR (a0 : Zf) (p1 : Int) (p5 : Int) : Option (Int ⊕ (Unit ⊕ Int)) :=
 bif decide (p5 < ((p1.toNat - 0 : Nat) : Int)) then (gd [decide (0 ≤ p5),decide (p5 < (((a0.Zr.drop 0).take (p1.toNat - 0)).length : Int))] (bif (((((((a0.Zr.drop 0).take (p1.toNat - 0)).getD p5.toNat default).Zp).Zy) == (((a0.Zr.getD p1.toNat default).Zp).Zy)) && (((((((a0.Zr.drop 0).take (p1.toNat - 0)).getD p5.toNat default).Zp).ZK) == (((a0.Zr.getD p1.toNat default).Zp).ZK)) && true)) && (((((a0.Zr.drop 0).take (p1.toNat - 0)).getD p5.toNat default).Xd) == ((a0.Zr.getD p1.toNat default).Xd)) then (some (.inr (.inr 6))) else (some (.inl (wr .i64 (p5 + 1)))))) else (some (.inr (.inl ())))
noncomputable def M.YE (a0 : Zf) (p1 : Int) (_p4 : Unit) : Option (Int ⊕ (Unit ⊕ Int)) :=
 gd [decide (0 ≤ p1),decide (p1 ≤ (a0.Zr.length : Int))] ((loopM (M.YR a0 p1) 0).bind fun y7 => Sum.elim (fun _ => some (.inl (wr .i64 (p1 + 1)))) (fun y9 => some (.inr (.inr y9))) y7)
noncomputable def M.Qm (a0 : Zf) (p1 : Int) : Option (Int ⊕ (Unit ⊕ Int)) :=
 bif decide (p1 < (a0.Zr.length : Int)) then (gd [decide (0 ≤ p1),decide (p1 < (a0.Zr.length : Int))] ((M.QG a0 (a0.Zr.getD p1.toNat default)).bind fun r3 => bif !r3 then (some (.inr (.inr 1))) else (bif !strEq ((a0.Zr.getD p1.toNat default).Qx) (⟨#[]⟩ : ByteArray) then ((M.Qn a0 ((a0.Zr.getD p1.toNat default).Qx)).bind fun r10 => bif decide (r10 < 0) then (some (.inr (.inr 5))) else (gd [decide (0 ≤ r10),decide (r10 < (a0.Zc.length : Int))] (bif ((a0.Zc.getD r10.toNat default).ZK) == 0 then (some (.inr (.inr 1))) else (M.YE a0 p1 ())))) else (M.YE a0 p1 ())))) else (some (.inr (.inl ())))
noncomputable def M.QM (a0 : Zf) : Option Int :=
 bif decide ((a0.Zr.length : Int) > 16) then (some 7) else ((loopM (M.Qm a0) 0).bind fun y11 => Sum.elim (fun _ => some 0) (fun y13 => some y13) y11)
noncomputable def M.Y8 (a1 : List Yi) (p1 : Int) (p8 : Int) : Option (Int ⊕ (Unit ⊕ Int)) :=
 bif decide (p8 < ((p1.toNat - 0 : Nat) : Int)) then (gd [decide (0 ≤ p8),decide (p8 < (((a1.drop 0).take (p1.toNat - 0)).length : Int))] (bif ((((a1.drop 0).take (p1.toNat - 0)).getD p8.toNat default).WT) == ((a1.getD p1.toNat default).WT) then (some (.inr (.inr 4))) else (some (.inl (wr .i64 (p8 + 1)))))) else (some (.inr (.inl ())))
noncomputable def M.Qz (a0 : Zf) (a1 : List Yi) (a2 : Int) (a3 : Int) (a4 : Int) (a5 : Int) (p1 : Int) : Option (Int ⊕ (Unit ⊕ Int)) :=
 bif decide (p1 < (a1.length : Int)) then (gd [decide (0 ≤ p1),decide (p1 < (a1.length : Int))] ((M.ZZ ((a1.getD p1.toNat default).WT) 1 5).bind fun r3 => (gc (!((!r3) || (((a1.getD p1.toNat default).WT) == a2))) (M.ZZ ((a1.getD p1.toNat default).Kv) a3 a4)).bind fun r4 => (gc (!(((!r3) || (((a1.getD p1.toNat default).WT) == a2)) || (!r4))) (M.ZZ ((a1.getD p1.toNat default).UK) 0 65535)).bind fun r5 => (gc (!((((!r3) || (((a1.getD p1.toNat default).WT) == a2)) || (!r4)) || (!r5))) (M.ZZ ((a1.getD p1.toNat default).Ke) (if a5 < 1 then a5 else 1) a5)).bind fun r6 => bif ((((!r3) || (((a1.getD p1.toNat default).WT) == a2)) || (!r4)) || (!r5)) || (!r6) then (some (.inr (.inr 1))) else ((gc (!strEq ((a1.getD p1.toNat default).Rs) (⟨#[]⟩ : ByteArray)) (M.Y5 a0 ((a1.getD p1.toNat default).Rs))).bind fun r7 => bif (!strEq ((a1.getD p1.toNat default).Rs) (⟨#[]⟩ : ByteArray)) && (decide (r7 < 0)) then (some (.inr (.inr 5))) else (gd [decide (0 ≤ p1),decide (p1 ≤ (a1.length : Int))] ((loopM (M.Y8 a1 p1) 0).bind fun y10 => Sum.elim (fun _ => some (.inl (wr .i64 (p1 + 1)))) (fun y12 => some (.inr (.inr y12))) y10))))) else (some (.inr (.inl ())))
noncomputable def M.YI (a0 : Zf) (a1 : List Yi) (a2 : Int) (a3 : Int) (a4 : Int) (a5 : Int) : Option Int :=
 bif decide ((a1.length : Int) > 4) then (some 7) else ((loopM (M.Qz a0 a1 a2 a3 a4 a5) 0).bind fun y13 => Sum.elim (fun _ => some 0) (fun y15 => some y15) y13)
noncomputable def M.YA (a0 : Zf) (p2 : Int) (p6 : Int) : Option (Int ⊕ (Unit ⊕ Int)) :=
 bif decide (p6 < ((p2.toNat - 0 : Nat) : Int)) then (gd [decide (0 ≤ p6),decide (p6 < (((a0.X0.ZE.drop 0).take (p2.toNat - 0)).length : Int))] ((gc (((((a0.X0.ZE.drop 0).take (p2.toNat - 0)).getD p6.toNat default).JW) == ((a0.X0.ZE.getD p2.toNat default).JW)) (M.Vl ((((a0.X0.ZE.drop 0).take (p2.toNat - 0)).getD p6.toNat default).Zp) ((a0.X0.ZE.getD p2.toNat default).Zp))).bind fun r8 => bif (((((a0.X0.ZE.drop 0).take (p2.toNat - 0)).getD p6.toNat default).JW) == ((a0.X0.ZE.getD p2.toNat default).JW)) && r8 then (some (.inr (.inr 6))) else (some (.inl (wr .i64 (p6 + 1)))))) else (some (.inr (.inl ())))
noncomputable def M.YL (a0 : Zf) (p2 : Int) : Option (Int ⊕ (Unit ⊕ Int)) :=
 bif decide (p2 < (a0.X0.ZE.length : Int)) then (gd [decide (0 ≤ p2),decide (p2 < (a0.X0.ZE.length : Int))] ((M.ZZ ((a0.X0.ZE.getD p2.toNat default).JW) 0 255).bind fun r4 => (gc (!(!r4)) (M.QZ ((a0.X0.ZE.getD p2.toNat default).Zp))).bind fun r5 => bif (!r4) || (!r5) then (some (.inr (.inr 1))) else (gd [decide (0 ≤ p2),decide (p2 ≤ (a0.X0.ZE.length : Int))] ((loopM (M.YA a0 p2) 0).bind fun y9 => Sum.elim (fun _ => some (.inl (wr .i64 (p2 + 1)))) (fun y11 => some (.inr (.inr y11))) y9)))) else (some (.inr (.inl ())))
noncomputable def M.Y9 (a0 : Zf) : Option Int :=
 bif !a0.X0.Va then (bif ((a0.X0.Xd != 0) || (decide ((a0.X0.ZE.length : Int) > 0))) || (decide ((a0.X0.Zs.length : Int) > 0)) then (some 1) else (some 0)) else ((M.ZZ a0.X0.Xd 1 255).bind fun r1 => bif !r1 then (some 1) else (bif decide ((a0.X0.ZE.length : Int) > 4) then (some 7) else ((loopM (M.YL a0) 0).bind fun y12 => Sum.elim (fun _ => (M.YI a0 a0.X0.Zs 3 0 16777215 2).bind fun r15 => some r15) (fun y14 => some y14) y12)))
noncomputable def M.Yn (a0 : Zf) : Option Int :=
 bif !a0.Ya.Va then (bif (((a0.Ya.Xd != 0) || (!strEq a0.Ya.Vr (⟨#[]⟩ : ByteArray))) || (!strEq a0.Ya.YD (⟨#[]⟩ : ByteArray))) || (decide ((a0.Ya.Zs.length : Int) > 0)) then (some 1) else (some 0)) else ((M.ZZ a0.Ya.Xd 1 255).bind fun r1 => bif !r1 then (some 1) else ((gc (!strEq a0.Ya.Vr (⟨#[]⟩ : ByteArray)) (M.Yy a0 a0.Ya.Vr)).bind fun r2 => (gc ((!((!strEq a0.Ya.Vr (⟨#[]⟩ : ByteArray)) && (decide (r2 < 0)))) && (!strEq a0.Ya.YD (⟨#[]⟩ : ByteArray))) (M.Yy a0 a0.Ya.YD)).bind fun r3 => bif ((!strEq a0.Ya.Vr (⟨#[]⟩ : ByteArray)) && (decide (r2 < 0))) || ((!strEq a0.Ya.YD (⟨#[]⟩ : ByteArray)) && (decide (r3 < 0))) then (some 5) else ((M.YI a0 a0.Ya.Zs 4 1 15 0).bind fun r4 => some r4)))
noncomputable def M.YB (a0 : Zf) (p1 : Int) (p6 : Int) : Option (Int ⊕ (Unit ⊕ Int)) :=
 bif decide (p6 < ((p1.toNat - 0 : Nat) : Int)) then (gd [decide (0 ≤ p6),decide (p6 < (((a0.ZW.Zk.drop 0).take (p1.toNat - 0)).length : Int))] (bif ((((a0.ZW.Zk.drop 0).take (p1.toNat - 0)).getD p6.toNat default).Zy) == ((a0.ZW.Zk.getD p1.toNat default).Zy) then (some (.inr (.inr 4))) else (some (.inl (wr .i64 (p6 + 1)))))) else (some (.inr (.inl ())))
noncomputable def M.YM (a0 : Zf) (p1 : Int) : Option (Int ⊕ (Unit ⊕ Int)) :=
 bif decide (p1 < (a0.ZW.Zk.length : Int)) then (gd [decide (0 ≤ p1),decide (p1 < (a0.ZW.Zk.length : Int))] ((gc (!(((a0.ZW.Zk.getD p1.toNat default).Zy) == 0)) (M.ZZ ((a0.ZW.Zk.getD p1.toNat default).GA) 1 65535)).bind fun r3 => bif (((a0.ZW.Zk.getD p1.toNat default).Zy) == 0) || (!r3) then (some (.inr (.inr 1))) else ((gc (!strEq ((a0.ZW.Zk.getD p1.toNat default).Vr) (⟨#[]⟩ : ByteArray)) (M.Y5 a0 ((a0.ZW.Zk.getD p1.toNat default).Vr))).bind fun r4 => (gc ((!((!strEq ((a0.ZW.Zk.getD p1.toNat default).Vr) (⟨#[]⟩ : ByteArray)) && (decide (r4 < 0)))) && (!strEq ((a0.ZW.Zk.getD p1.toNat default).YD) (⟨#[]⟩ : ByteArray))) (M.Y5 a0 ((a0.ZW.Zk.getD p1.toNat default).YD))).bind fun r5 => bif ((!strEq ((a0.ZW.Zk.getD p1.toNat default).Vr) (⟨#[]⟩ : ByteArray)) && (decide (r4 < 0))) || ((!strEq ((a0.ZW.Zk.getD p1.toNat default).YD) (⟨#[]⟩ : ByteArray)) && (decide (r5 < 0))) then (some (.inr (.inr 5))) else (gd [decide (0 ≤ p1),decide (p1 ≤ (a0.ZW.Zk.length : Int))] ((loopM (M.YB a0 p1) 0).bind fun y8 => Sum.elim (fun _ => some (.inl (wr .i64 (p1 + 1)))) (fun y10 => some (.inr (.inr y10))) y8))))) else (some (.inr (.inl ())))
noncomputable def M.Qa (a0 : Zf) : Option Int :=
 bif decide ((a0.ZW.Zk.length : Int) > 8) then (some 7) else ((loopM (M.YM a0) 0).bind fun y11 => Sum.elim (fun _ => some 0) (fun y13 => some y13) y11)
noncomputable def M.XX (a0 : List ZS) (a1 : ZS) (p1 : Int) : Option (Int ⊕ (Unit ⊕ Int)) :=
 bif decide (p1 < (a0.length : Int)) then (gd [decide (0 ≤ p1),decide (p1 < (a0.length : Int))] (bif ((a1.Zy == ((a0.getD p1.toNat default).Zy)) && ((a1.ZK == ((a0.getD p1.toNat default).ZK)) && true)) then (some (.inr (.inr p1))) else (some (.inl (wr .i64 (p1 + 1)))))) else (some (.inr (.inl ())))
noncomputable def M.XS (a0 : List ZS) (a1 : ZS) : Option Int :=
 (loopM (M.XX a0 a1) 0).bind fun y3 => Sum.elim (fun _ => some (-1)) (fun y5 => some y5) y3
noncomputable def M.Xz (a0 : List ZS) (a1 : ZS) : Option Bool :=
 (M.XS a0 a1).bind fun r1 => some (decide (r1 ≥ 0))
noncomputable def M.YS (a0 : Xg) (p1 : Int) : Option (Int ⊕ (Unit ⊕ Int)) :=
 bif decide (p1 < (a0.Zt.length : Int)) then (gd [decide (0 ≤ p1),decide (p1 < (a0.Zt.length : Int))] ((M.QZ (a0.Zt.getD p1.toNat default)).bind fun r3 => bif !r3 then (some (.inr (.inr 1))) else ((M.Xz ((a0.Zt.drop 0).take (p1.toNat - 0)) (a0.Zt.getD p1.toNat default)).bind fun r4 => gd [decide (0 ≤ p1),decide (p1 ≤ (a0.Zt.length : Int))] (bif r4 then (some (.inr (.inr 4))) else (some (.inl (wr .i64 (p1 + 1)))))))) else (some (.inr (.inl ())))
noncomputable def M.YT (a0 : Xg) (p8 : Int) (p11 : Int) : Option (Int ⊕ (Unit ⊕ Int)) :=
 bif decide (p11 < ((p8.toNat - 0 : Nat) : Int)) then (gd [decide (0 ≤ p11),decide (p11 < (((a0.Zq.drop 0).take (p8.toNat - 0)).length : Int))] (bif (((((((a0.Zq.drop 0).take (p8.toNat - 0)).getD p11.toNat default).Zp).Zy) == (((a0.Zq.getD p8.toNat default).Zp).Zy)) && (((((((a0.Zq.drop 0).take (p8.toNat - 0)).getD p11.toNat default).Zp).ZK) == (((a0.Zq.getD p8.toNat default).Zp).ZK)) && true)) then (some (.inr (.inr 4))) else (some (.inl (wr .i64 (p11 + 1)))))) else (some (.inr (.inl ())))
noncomputable def M.YU (a0 : Xg) (p8 : Int) : Option (Int ⊕ (Unit ⊕ Int)) :=
 bif decide (p8 < (a0.Zq.length : Int)) then (gd [decide (0 ≤ p8),decide (p8 < (a0.Zq.length : Int))] ((M.QZ ((a0.Zq.getD p8.toNat default).Zp)).bind fun r10 => bif !r10 then (some (.inr (.inr 1))) else (gd [decide (0 ≤ p8),decide (p8 ≤ (a0.Zq.length : Int))] ((loopM (M.YT a0 p8) 0).bind fun y13 => Sum.elim (fun _ => some (.inl (wr .i64 (p8 + 1)))) (fun y15 => some (.inr (.inr y15))) y13)))) else (some (.inr (.inl ())))
noncomputable def M.YV (a0 : Xg) (p19 : Int) (p23 : Int) : Option (Int ⊕ (Unit ⊕ Int)) :=
 bif decide (p23 < ((p19.toNat - 0 : Nat) : Int)) then (gd [decide (0 ≤ p23),decide (p23 < (((a0.Zm.drop 0).take (p19.toNat - 0)).length : Int))] (bif (((((((a0.Zm.drop 0).take (p19.toNat - 0)).getD p23.toNat default).Zp).Zy) == (((a0.Zm.getD p19.toNat default).Zp).Zy)) && (((((((a0.Zm.drop 0).take (p19.toNat - 0)).getD p23.toNat default).Zp).ZK) == (((a0.Zm.getD p19.toNat default).Zp).ZK)) && true)) then (some (.inr (.inr 4))) else (some (.inl (wr .i64 (p23 + 1)))))) else (some (.inr (.inl ())))
noncomputable def M.YW (a0 : Xg) (p19 : Int) : Option (Int ⊕ (Unit ⊕ Int)) :=
 bif decide (p19 < (a0.Zm.length : Int)) then (gd [decide (0 ≤ p19),decide (p19 < (a0.Zm.length : Int))] ((M.QZ ((a0.Zm.getD p19.toNat default).Zp)).bind fun r21 => (gc (!(!r21)) (M.QZ ((a0.Zm.getD p19.toNat default).fIf))).bind fun r22 => bif (!r21) || (!r22) then (some (.inr (.inr 1))) else (bif (((((a0.Zm.getD p19.toNat default).Zp).Zy) == (((a0.Zm.getD p19.toNat default).fIf).Zy)) && (((((a0.Zm.getD p19.toNat default).Zp).ZK) == (((a0.Zm.getD p19.toNat default).fIf).ZK)) && true)) then (some (.inr (.inr 6))) else (gd [decide (0 ≤ p19),decide (p19 ≤ (a0.Zm.length : Int))] ((loopM (M.YV a0 p19) 0).bind fun y25 => Sum.elim (fun _ => some (.inl (wr .i64 (p19 + 1)))) (fun y27 => some (.inr (.inr y27))) y25))))) else (some (.inr (.inl ())))
noncomputable def M.QN (a0 : Xg) : Option Int :=
 bif decide ((a0.Zt.length : Int) > 8) then (some 7) else ((loopM (M.YS a0) 0).bind fun y5 => Sum.elim (fun _ => bif decide ((a0.Zq.length : Int) > 8) then (some 7) else ((loopM (M.YU a0) 0).bind fun y16 => Sum.elim (fun _ => bif decide ((a0.Zm.length : Int) > 8) then (some 7) else ((loopM (M.YW a0) 0).bind fun y28 => Sum.elim (fun _ => some 0) (fun y30 => some y30) y28)) (fun y18 => some y18) y16)) (fun y7 => some y7) y5)
noncomputable def M.YX (a0 : Zf) : Option Int :=
 bif !a0.ZW.Va then (bif ((((((a0.ZW.XN != 0) || (a0.ZW.XO != 0)) || (decide ((a0.ZW.Zk.length : Int) > 0))) || (decide ((a0.ZW.Zt.length : Int) > 0))) || (decide ((a0.ZW.Zq.length : Int) > 0))) || (decide ((a0.ZW.Zm.length : Int) > 0))) || (decide ((a0.ZW.Zs.length : Int) > 0)) then (some 1) else (some 0)) else ((gc (!(a0.GA == 0)) (M.ZZ a0.ZW.XN 1 255)).bind fun r1 => (gc (!((a0.GA == 0) || (!r1))) (M.ZZ a0.ZW.XO 1 255)).bind fun r2 => bif ((a0.GA == 0) || (!r1)) || (!r2) then (some 1) else ((M.Qa a0).bind fun r3 => bif r3 != 0 then (some r3) else ((M.QN a0.ZW).bind fun r4 => bif r4 != 0 then (some r4) else ((M.YI a0 a0.ZW.Zs 5 0 16777215 0).bind fun r5 => some r5))))
noncomputable def M.Q9 (a0 : Zf) : Option Int :=
 (M.WD a0.ZJ).bind fun r1 => bif !r1 then (some 3) else ((M.ZZ a0.GA 0 65535).bind fun r2 => bif !r2 then (some 1) else (gd [decide (0 ≤ 0),decide (0 < (10 : Int))] ((M.YQ a0).bind fun r3 => bif r3 != 0 then (some r3) else (gd [decide (0 ≤ 1),decide (1 < (10 : Int))] ((M.YH a0).bind fun r4 => bif r4 != 0 then (some r4) else (gd [decide (0 ≤ 2),decide (2 < (10 : Int))] ((M.Y6 a0).bind fun r5 => bif r5 != 0 then (some r5) else (gd [decide (0 ≤ 3),decide (3 < (10 : Int))] ((M.JZ a0).bind fun r6 => bif r6 != 0 then (some r6) else (gd [decide (0 ≤ 4),decide (4 < (10 : Int))] ((M.Vg a0).bind fun r7 => bif r7 != 0 then (some r7) else (gd [decide (0 ≤ 5),decide (5 < (10 : Int))] ((M.Jn a0).bind fun r8 => bif r8 != 0 then (some r8) else (gd [decide (0 ≤ 6),decide (6 < (10 : Int))] ((M.QM a0).bind fun r9 => bif r9 != 0 then (some r9) else (gd [decide (0 ≤ 7),decide (7 < (10 : Int))] ((M.Y9 a0).bind fun r10 => bif r10 != 0 then (some r10) else (gd [decide (0 ≤ 8),decide (8 < (10 : Int))] ((M.Yn a0).bind fun r11 => bif r11 != 0 then (some r11) else (gd [decide (0 ≤ 9),decide (9 < (10 : Int))] ((M.YX a0).bind fun r12 => bif r12 != 0 then (some r12) else (some 0))))))))))))))))))))))
noncomputable def M.Qb (a0 : ZB) (b0 : Zf) : Option Bool :=
 (gc (a0.ZK != 0) (M.Vm b0 a0.Zy)).bind fun r1 => some ((a0.ZK != 0) && (decide (r1 ≥ 0)))
noncomputable def M.ZO (a0 : List ZB) (a1c0 : Zf) (p1 : Int) : Option (Int ⊕ (Unit ⊕ Int)) :=
 bif decide (p1 < (a0.length : Int)) then ((M.Qb (a0.getD p1.toNat default) a1c0).bind fun r3 => gd [decide (0 ≤ p1),decide (p1 < (a0.length : Int))] (bif r3 then (some (.inr (.inr p1))) else (some (.inl (wr .i64 (p1 + 1)))))) else (some (.inr (.inl ())))
noncomputable def M.ZV (a0 : List ZB) (a1c0 : Zf) : Option Int :=
 (loopM (M.ZO a0 a1c0) 0).bind fun y4 => Sum.elim (fun _ => some (-1)) (fun y6 => some y6) y4
noncomputable def M.ZP (a0 : List ZB) (a1c0 : Zf) : Option Bool :=
 (M.ZV a0 a1c0).bind fun r1 => some (decide (r1 ≥ 0))
noncomputable def M.Jo (a0 : Zf) (a1 : Zf) : Option Bool :=
 (M.ZP a1.Zc a0).bind fun r1 => some r1
noncomputable def M.Vh (a0 : ZG) (p1 : Int) (p4 : Int) : Option (Int ⊕ (Unit ⊕ Int)) :=
 bif decide (p4 < ((p1.toNat - 0 : Nat) : Int)) then (gd [decide (0 ≤ p4),decide (p4 < (((a0.Ze.drop 0).take (p1.toNat - 0)).length : Int))] ((gc (!(strEq ((((a0.Ze.drop 0).take (p1.toNat - 0)).getD p4.toNat default).ZJ) ((a0.Ze.getD p1.toNat default).ZJ))) (M.Jo (((a0.Ze.drop 0).take (p1.toNat - 0)).getD p4.toNat default) (a0.Ze.getD p1.toNat default))).bind fun r6 => bif (strEq ((((a0.Ze.drop 0).take (p1.toNat - 0)).getD p4.toNat default).ZJ) ((a0.Ze.getD p1.toNat default).ZJ)) || r6 then (some (.inr (.inr 4))) else (some (.inl (wr .i64 (p4 + 1)))))) else (some (.inr (.inl ())))
noncomputable def M.VL (a0 : ZG) (p1 : Int) : Option (Int ⊕ (Unit ⊕ Int)) :=
 bif decide (p1 < (a0.Ze.length : Int)) then (gd [decide (0 ≤ p1),decide (p1 < (a0.Ze.length : Int))] ((M.Q9 (a0.Ze.getD p1.toNat default)).bind fun r3 => bif r3 != 0 then (some (.inr (.inr r3))) else (gd [decide (0 ≤ p1),decide (p1 ≤ (a0.Ze.length : Int))] ((loopM (M.Vh a0 p1) 0).bind fun y7 => Sum.elim (fun _ => some (.inl (wr .i64 (p1 + 1)))) (fun y9 => some (.inr (.inr y9))) y7)))) else (some (.inr (.inl ())))
noncomputable def M.QU (a0 : ZG) : Option Int :=
 bif decide ((a0.Ze.length : Int) > 8) then (some 7) else ((loopM (M.VL a0) 0).bind fun y10 => Sum.elim (fun _ => some 0) (fun y12 => some y12) y10)
noncomputable def M.Ja (i : Int) (p : (List Zl) × (List (Xi × Int)) × Int) (q : (List Zl) × (List (Xi × Int)) × Int) : Option (((List Zl) × (List (Xi × Int)) × Int) ⊕ ((List Zl) × (List (Xi × Int)))) :=
 gd [decide (0 ≤ q.2.2),decide (q.2.2 < (q.1.length : Int)),decide (((q.1.getD (0 + q.2.2.toNat) default).Xo.length + 1) * 16 ≤ 140737488355328)] (some (.inl (q.1.set (0 + q.2.2.toNat) ⟨(q.1.getD (0 + q.2.2.toNat) default).Zp,(q.1.getD (0 + q.2.2.toNat) default).XF,(q.1.getD (0 + q.2.2.toNat) default).Xo ++ [⟨i,p.2.2⟩]⟩,q.2.1,wr .i64 (p.2.2 + 1))))
noncomputable def M.Q1 (a0 : ZG) (i : Int) (p : (List Zl) × (List (Xi × Int)) × Int) : Option (((List Zl) × (List (Xi × Int)) × Int) ⊕ ((List Zl) × (List (Xi × Int)))) :=
 bif decide (p.2.2 < (((a0.Ze.getD i.toNat default).Zc).length : Int)) then (gd [decide (0 ≤ p.2.2),decide (p.2.2 < (((a0.Ze.getD i.toNat default).Zc).length : Int))] (bif (((a0.Ze.getD i.toNat default).Zc.getD p.2.2.toNat default).ZK == 0) || ((a0.Ze.getD i.toNat default).Zc.getD p.2.2.toNat default).Gu then (some (.inl (p.1,p.2.1,wr .i64 (p.2.2 + 1)))) else ((M.Y2 ((a0.Ze.getD i.toNat default).Zc.getD p.2.2.toNat default).Zy ((a0.Ze.getD i.toNat default).Zc.getD p.2.2.toNat default).ZK).bind fun r => bif !(lkM (topoKeyEq ⟨r,((a0.Ze.getD i.toNat default).Zc.getD p.2.2.toNat default).XF⟩) p.2.1).2 then (gd [decide ((p.1.length + 1) * 48 ≤ 140737488355328)] (M.Ja i p (p.1 ++ [⟨r,((a0.Ze.getD i.toNat default).Zc.getD p.2.2.toNat default).XF,[]⟩],p.2.1 ++ [(⟨r,((a0.Ze.getD i.toNat default).Zc.getD p.2.2.toNat default).XF⟩,(p.1.length : Int))],(p.1.length : Int)))) else (M.Ja i p (p.1,p.2.1,(lkM (topoKeyEq ⟨r,((a0.Ze.getD i.toNat default).Zc.getD p.2.2.toNat default).XF⟩) p.2.1).1))))) else (some (.inr (p.1,p.2.1)))
noncomputable def M.Jv (a0 : ZG) (p : (List Zl) × (List (Xi × Int)) × Int) : Option (((List Zl) × (List (Xi × Int)) × Int) ⊕ (List Zl)) :=
 bif decide (p.2.2 < (a0.Ze.length : Int)) then (gd [decide (0 ≤ p.2.2),decide (p.2.2 < (a0.Ze.length : Int))] ((loopM (M.Q1 a0 p.2.2) (p.1,p.2.1,0)).bind fun y => some (.inl (y.1,y.2,wr .i64 (p.2.2 + 1))))) else (some (.inr p.1))
noncomputable def M.Wi (a0 : ZG) : Option (List Zl) :=
 (loopM (M.Jv a0) ([],[],0)).bind fun y => some y
noncomputable def M.QD (a0 : Int) : Option Bool :=
 some (a0 != a0)
noncomputable def M.QO (a0 : Int) (a1 : Int) : Option Int :=
 (M.QD a0).bind fun r1 => (M.QD a1).bind fun r2 => bif r1 then (bif r2 then (some 0) else (some (-1))) else (bif r2 then (some 1) else (bif decide (a0 < a1) then (some (-1)) else (bif decide (a0 > a1) then (some 1) else (some 0))))
noncomputable def M.J5 (a0 : Int) : Option Bool :=
 some (a0 != a0)
noncomputable def M.Q2 (a0 : Int) (a1 : Int) : Option Int :=
 (M.J5 a0).bind fun r1 => (M.J5 a1).bind fun r2 => bif r1 then (bif r2 then (some 0) else (some (-1))) else (bif r2 then (some 1) else (bif decide (a0 < a1) then (some (-1)) else (bif decide (a0 > a1) then (some 1) else (some 0))))
noncomputable def M.Wj (a0 : ZS) (a1 : ZS) : Option Int :=
 (M.QO a0.Zy a1.Zy).bind fun r1 => bif r1 != 0 then (some r1) else ((M.Q2 a0.ZK a1.ZK).bind fun r2 => some r2)
noncomputable def M.YN (a0 : List Int) (p1 : Int) : Option (Int ⊕ (Unit ⊕ Int)) :=
 bif decide (p1 < (a0.length : Int)) then (gd [decide (0 ≤ p1),decide (p1 < (a0.length : Int))] (bif (a0.getD p1.toNat default) != 0 then (some (.inr (.inr (a0.getD p1.toNat default)))) else (some (.inl (wr .i64 (p1 + 1)))))) else (some (.inr (.inl ())))
noncomputable def M.Ua (a0 : List Int) : Option Int :=
 (loopM (M.YN a0) 0).bind fun y3 => Sum.elim (fun _ => some 0) (fun y5 => some y5) y3
noncomputable def M.VT (a0 : Zl) (a1 : Zl) : Option Int :=
 (M.Wj a0.Zp a1.Zp).bind fun r1 => (M.Q2 a0.XF a1.XF).bind fun r2 => (M.Ua ([r1,r2] : List Int)).bind fun r3 => some r3
noncomputable def M.XP (a0 : List Zl) : Option (List Zl) :=
 sortU M.VT a0
noncomputable def M.J6 (p5 : (List Int) × Int) (p7 : (List Int)) : Option (((List Int) × Int) ⊕ (List Int)) :=
 some (.inl (p7,wr .i64 (p5.2 + 1)))
noncomputable def M.Vn (r3 : (List Zl)) (p5 : (List Int) × Int) : Option (((List Int) × Int) ⊕ (List Int)) :=
 bif decide (p5.2 < (r3.length : Int)) then (gd [decide (0 ≤ p5.2),decide (p5.2 < (r3.length : Int))] (bif decide ((((r3.getD p5.2.toNat default).Xo).length : Int) ≥ 2) then (gd [decide ((p5.1.length + 1) * 8 ≤ 140737488355328)] (M.J6 p5 (p5.1 ++ [p5.2]))) else (M.J6 p5 p5.1))) else (some (.inr p5.1))
noncomputable def M.WE (a0 : ZG) : Option (Yl × Int) :=
 (M.QU a0).bind fun r1 => bif r1 != 0 then (some ((⟨([] : List Zl),([] : List Int)⟩ : Yl),r1)) else ((M.Wi a0).bind fun r2 => (M.XP r2).bind fun r3 => gd [decide (r3.length = r2.length)] ((loopM (M.Vn r3) (([] : List Int),0)).bind fun y8 => bif decide ((y8.length : Int) > 12) then (some ((⟨([] : List Zl),([] : List Int)⟩ : Yl),7)) else (some ((⟨r3,y8⟩ : Yl),0))))
noncomputable def M.XT (a0 : List Zf) : Option (List Zf) :=
 gd [decide (0 = 0) || decide (0 < a0.length),decide ((0 + a0.length) * 448 ≤ 140737488355328)] (some a0)
noncomputable def M.XA (a0 : List ZB) : Option (List ZB) :=
 gd [decide (0 = 0) || decide (0 < a0.length),decide ((0 + a0.length) * 112 ≤ 140737488355328)] (some a0)
noncomputable def M.Xv (a0 : List ZF) : Option (List ZF) :=
 gd [decide (0 = 0) || decide (0 < a0.length),decide ((0 + a0.length) * 40 ≤ 140737488355328)] (some a0)
noncomputable def M.Xw (a0 : List VC) : Option (List VC) :=
 gd [decide (0 = 0) || decide (0 < a0.length),decide ((0 + a0.length) * 40 ≤ 140737488355328)] (some a0)
noncomputable def M.XL (a0 : List Xy) : Option (List Xy) :=
 gd [decide (0 = 0) || decide (0 < a0.length),decide ((0 + a0.length) * 40 ≤ 140737488355328)] (some a0)
noncomputable def M.XU (a0 : List Ul) : Option (List Ul) :=
 gd [decide (0 = 0) || decide (0 < a0.length),decide ((0 + a0.length) * 64 ≤ 140737488355328)] (some a0)
noncomputable def M.Yg (a0 : List V2) : Option (List V2) :=
 gd [decide (0 = 0) || decide (0 < a0.length),decide ((0 + a0.length) * 40 ≤ 140737488355328)] (some a0)
noncomputable def M.X8 (a0 : List Ku) : Option (List Ku) :=
 gd [decide (0 = 0) || decide (0 < a0.length),decide ((0 + a0.length) * 64 ≤ 140737488355328)] (some a0)
noncomputable def M.Xp (a0 : List Y1) : Option (List Y1) :=
 gd [decide (0 = 0) || decide (0 < a0.length),decide ((0 + a0.length) * 64 ≤ 140737488355328)] (some a0)
noncomputable def M.Xq (a0 : List Yk) : Option (List Yk) :=
 gd [decide (0 = 0) || decide (0 < a0.length),decide ((0 + a0.length) * 64 ≤ 140737488355328)] (some a0)
noncomputable def M.XB (a0 : List We) : Option (List We) :=
 gd [decide (0 = 0) || decide (0 < a0.length),decide ((0 + a0.length) * 24 ≤ 140737488355328)] (some a0)
noncomputable def M.Xe (a0 : List Yi) : Option (List Yi) :=
 gd [decide (0 = 0) || decide (0 < a0.length),decide ((0 + a0.length) * 48 ≤ 140737488355328)] (some a0)
noncomputable def M.XM (a0 : List VH) : Option (List VH) :=
 gd [decide (0 = 0) || decide (0 < a0.length),decide ((0 + a0.length) * 48 ≤ 140737488355328)] (some a0)
noncomputable def M.XV (a0 : List ZS) : Option (List ZS) :=
 gd [decide (0 = 0) || decide (0 < a0.length),decide ((0 + a0.length) * 16 ≤ 140737488355328)] (some a0)
noncomputable def M.XC (a0 : List Wf) : Option (List Wf) :=
 gd [decide (0 = 0) || decide (0 < a0.length),decide ((0 + a0.length) * 24 ≤ 140737488355328)] (some a0)
noncomputable def M.XD (a0 : List Wg) : Option (List Wg) :=
 gd [decide (0 = 0) || decide (0 < a0.length),decide ((0 + a0.length) * 40 ≤ 140737488355328)] (some a0)
noncomputable def M.QP (r2 : (List ZF)) (p3 : (List ZF) × Int) : Option (((List ZF) × Int) ⊕ (List ZF)) :=
 bif decide (p3.2 < (r2.length : Int)) then ((M.Xw ((p3.1.getD (0 + p3.2.toNat) default).Z0)).bind fun r5 => gd [decide (0 ≤ p3.2),decide (p3.2 < (p3.1.length : Int)),decide (0 ≤ p3.2),decide (p3.2 < (p3.1.length : Int))] (some (.inl (p3.1.set (0 + p3.2.toNat) (⟨(p3.1.getD (0 + p3.2.toNat) default).ZJ,r5⟩ : ZF),wr .i64 (p3.2 + 1))))) else (some (.inr p3.1))
noncomputable def M.QQ (r7 : (List Xy)) (p8 : (List Xy) × Int) : Option (((List Xy) × Int) ⊕ (List Xy)) :=
 bif decide (p8.2 < (r7.length : Int)) then ((M.XU ((p8.1.getD (0 + p8.2.toNat) default).Z4)).bind fun r10 => gd [decide (0 ≤ p8.2),decide (p8.2 < (p8.1.length : Int)),decide (0 ≤ p8.2),decide (p8.2 < (p8.1.length : Int))] (some (.inl (p8.1.set (0 + p8.2.toNat) (⟨(p8.1.getD (0 + p8.2.toNat) default).ZJ,r10⟩ : Xy),wr .i64 (p8.2 + 1))))) else (some (.inr p8.1))
noncomputable def M.QR (r12 : (List V2)) (p13 : (List V2) × Int) : Option (((List V2) × Int) ⊕ (List V2)) :=
 bif decide (p13.2 < (r12.length : Int)) then ((M.X8 ((p13.1.getD (0 + p13.2.toNat) default).Z0)).bind fun r15 => gd [decide (0 ≤ p13.2),decide (p13.2 < (p13.1.length : Int)),decide (0 ≤ p13.2),decide (p13.2 < (p13.1.length : Int))] (some (.inl (p13.1.set (0 + p13.2.toNat) (⟨(p13.1.getD (0 + p13.2.toNat) default).ZJ,r15⟩ : V2),wr .i64 (p13.2 + 1))))) else (some (.inr p13.1))
noncomputable def M.J0 (a0 : Zf) : Option Zf :=
 (M.XA a0.Zc).bind fun r1 => (M.Xv a0.Z1).bind fun r2 => (loopM (M.QP r2) (r2,0)).bind fun y6 => (M.XL a0.ZR).bind fun r7 => (loopM (M.QQ r7) (r7,0)).bind fun y11 => (M.Yg a0.Xh).bind fun r12 => (loopM (M.QR r12) (r12,0)).bind fun y16 => (M.Xp a0.Xf).bind fun r17 => (M.Xq a0.Zr).bind fun r18 => (M.XB a0.X0.ZE).bind fun r19 => (M.Xe a0.X0.Zs).bind fun r20 => (M.Xe a0.Ya.Zs).bind fun r21 => (M.XM a0.ZW.Zk).bind fun r22 => (M.XV a0.ZW.Zt).bind fun r23 => (M.XC a0.ZW.Zq).bind fun r24 => (M.XD a0.ZW.Zm).bind fun r25 => (M.Xe a0.ZW.Zs).bind fun r26 => some (⟨a0.ZJ,a0.GA,r1,y6,y11,y16,r17,r18,(⟨a0.X0.Va,a0.X0.Xd,r19,r20⟩ : WC),(⟨a0.Ya.Va,a0.Ya.Xd,a0.Ya.Vr,a0.Ya.YD,r21⟩ : QF),(⟨a0.ZW.Va,a0.ZW.XN,a0.ZW.XO,r22,r23,r24,r25,r26⟩ : Xg)⟩ : Zf)
noncomputable def M.Qr (r1 : (List Zf)) (p2 : (List Zf) × Int) : Option (((List Zf) × Int) ⊕ (List Zf)) :=
 bif decide (p2.2 < (r1.length : Int)) then ((M.J0 (p2.1.getD (0 + p2.2.toNat) default)).bind fun r4 => gd [decide (0 ≤ p2.2),decide (p2.2 < (p2.1.length : Int)),decide (0 ≤ p2.2),decide (p2.2 < (p2.1.length : Int))] (some (.inl (p2.1.set (0 + p2.2.toNat) r4,wr .i64 (p2.2 + 1))))) else (some (.inr p2.1))
noncomputable def M.JG (a0 : ZG) : Option ZG :=
 (M.XT a0.Ze).bind fun r1 => (loopM (M.Qr r1) (r1,0)).bind fun y5 => some (⟨y5⟩ : ZG)
noncomputable def M.QA (a0 : List Int) : Option (List Int) :=
 gd [decide (0 = 0) || decide (0 < a0.length),decide ((0 + a0.length) * 8 ≤ 140737488355328)] (some a0)
noncomputable def M.J9 (a1 : List Int) (r1 : Yl × Int) (p2 : Int) : Option (Int ⊕ (Unit ⊕ (WG × Int))) :=
 bif decide (p2 < (a1.length : Int)) then (gd [decide (0 ≤ p2),decide (p2 < (a1.length : Int))] (gd [guardB ((!((decide ((a1.getD p2.toNat default) < 0)) || (decide ((a1.getD p2.toNat default) ≥ (r1.1.Js.length : Int))))) && (decide (p2 > 0))) (decide (0 ≤ (wr .i64 (p2 - 1)))),guardB ((!((decide ((a1.getD p2.toNat default) < 0)) || (decide ((a1.getD p2.toNat default) ≥ (r1.1.Js.length : Int))))) && (decide (p2 > 0))) (decide ((wr .i64 (p2 - 1)) < (a1.length : Int)))] (bif ((decide ((a1.getD p2.toNat default) < 0)) || (decide ((a1.getD p2.toNat default) ≥ (r1.1.Js.length : Int)))) || ((decide (p2 > 0)) && (decide ((a1.getD p2.toNat default) ≤ (a1.getD (wr .i64 (p2 - 1)).toNat default)))) then (some (.inr (.inr ((⟨(⟨([] : List Zf)⟩ : ZG),(⟨([] : List Zl),([] : List Int)⟩ : Yl),([] : List Int)⟩ : WG),1)))) else (some (.inl (wr .i64 (p2 + 1))))))) else (some (.inr (.inl ())))
noncomputable def M.WU (a0 : ZG) (a1 : List Int) : Option (WG × Int) :=
 (M.WE a0).bind fun r1 => bif r1.2 != 0 then (some ((⟨(⟨([] : List Zf)⟩ : ZG),(⟨([] : List Zl),([] : List Int)⟩ : Yl),([] : List Int)⟩ : WG),r1.2)) else (bif decide ((a1.length : Int) > 2) then (some ((⟨(⟨([] : List Zf)⟩ : ZG),(⟨([] : List Zl),([] : List Int)⟩ : Yl),([] : List Int)⟩ : WG),1)) else ((loopM (M.J9 a1 r1) 0).bind fun y4 => Sum.elim (fun _ => (M.JG a0).bind fun r7 => (M.QA a1).bind fun r8 => some ((⟨r7,r1.1,r8⟩ : WG),0)) (fun y6 => some y6) y4))
noncomputable def M.VE (a0 : Int) : Option Bool :=
 some (((decide (a0 ≥ 97)) && (decide (a0 ≤ 122))) || ((decide (a0 ≥ 65)) && (decide (a0 ≤ 90))))
noncomputable def M.Wk (a0 : ByteArray) (p2 : Int) : Option (Int ⊕ (Unit ⊕ Bool)) :=
 bif decide (p2 < (a0.size : Int)) then (gd [decide (0 ≤ p2),decide (p2 < (a0.size : Int))] ((M.VE (byteAt a0 p2)).bind fun r4 => bif (((((!r4) && (!((decide ((byteAt a0 p2) ≥ 48)) && (decide ((byteAt a0 p2) ≤ 57))))) && ((byteAt a0 p2) != 45)) && ((byteAt a0 p2) != 95)) && ((byteAt a0 p2) != 47)) && ((byteAt a0 p2) != 46) then (some (.inr (.inr false))) else (some (.inl (wr .i64 (p2 + 1)))))) else (some (.inr (.inl ())))
noncomputable def M.Jr (a0 : ByteArray) : Option Bool :=
 (gc (!((decide ((a0.size : Int) < 1)) || (decide ((a0.size : Int) > 15)))) (M.VE (byteAt a0 0))).bind fun r1 => gd [guardB (!((decide ((a0.size : Int) < 1)) || (decide ((a0.size : Int) > 15)))) (decide (0 ≤ 0)),guardB (!((decide ((a0.size : Int) < 1)) || (decide ((a0.size : Int) > 15)))) (decide (0 < (a0.size : Int)))] (bif ((decide ((a0.size : Int) < 1)) || (decide ((a0.size : Int) > 15))) || (!r1) then (some false) else ((loopM (M.Wk a0) 1).bind fun y5 => Sum.elim (fun _ => some true) (fun y7 => some y7) y5))
noncomputable def M.ZD (a0 : Int) (a1 : Int) (a2 : Int) : Option Bool :=
 some ((decide (a1 ≤ a0)) && (decide (a0 ≤ a2)))
noncomputable def M.Kw (p1 : Int × Int) (p3 : Int) : Option ((Int × Int) ⊕ Int) :=
 some (.inl (p3,wr .i64 (p1.2 + 1)))
noncomputable def M.U9 (a0 : Int) (p1 : Int × Int) : Option ((Int × Int) ⊕ Int) :=
 bif decide (p1.2 < 32) then (bif decide (p1.2 < a0) then (gd [decide (0 ≤ (wr .u64 (wr .i64 (31 - p1.2))))] (M.Kw p1 (bitD .or .u32 p1.1 (wr .u32 (1 * 2 ^ min (wr .u64 (wr .i64 (31 - p1.2))).toNat 32))))) else (M.Kw p1 p1.1)) else (some (.inr p1.1))
noncomputable def M.VI (a0 : Int) : Option Int :=
 (loopM (M.U9 a0) (0,0)).bind fun y4 => some y4
noncomputable def M.Jb (a0 : Int) (a1 : Int) : Option ZS :=
 (M.VI (if 0 > (if 32 < a1 then 32 else a1) then 0 else (if 32 < a1 then 32 else a1))).bind fun r1 => some (⟨bitD .and .u32 a0 r1,if 0 > (if 32 < a1 then 32 else a1) then 0 else (if 32 < a1 then 32 else a1)⟩ : ZS)
noncomputable def M.WL (a0 : ZS) (a1 : Int) : Option Bool :=
 (M.VI a0.ZK).bind fun r1 => some ((bitD .and .u32 a1 r1) == a0.Zy)
noncomputable def M.WQ (a0 : ZS) (a1 : ZS) : Option Bool :=
 (gc (decide (a0.ZK ≤ a1.ZK)) (M.WL a0 a1.Zy)).bind fun r1 => some ((decide (a0.ZK ≤ a1.ZK)) && r1)
noncomputable def M.Vo (a0 : ZS) (a1 : ZS) : Option Bool :=
 (M.WQ a0 a1).bind fun r1 => (gc (!r1) (M.WQ a1 a0)).bind fun r2 => some (r1 || r2)
noncomputable def M.Jp (a0 : List ZB) (p1 : Int) (p4 : Int) : Option (Int ⊕ (Unit ⊕ Int)) :=
 bif decide (p4 < p1) then (gd [decide (0 ≤ p4),decide (p4 < (a0.length : Int))] (bif strEq ((a0.getD p4.toNat default).ZJ) ((a0.getD p1.toNat default).ZJ) then (some (.inr (.inr 4))) else (some (.inl (wr .i64 (p4 + 1)))))) else (some (.inr (.inl ())))
noncomputable def M.Qo (a0 : List ZB) (p1 : Int) (p14 : Int) : Option (Int ⊕ (Unit ⊕ Int)) :=
 bif decide (p14 < p1) then ((gc ((((a0.getD p1.toNat default).ZK) != 0) && (((a0.getD p14.toNat default).ZK) != 0)) (M.Jb ((a0.getD p1.toNat default).Zy) ((a0.getD p1.toNat default).ZK))).bind fun r16 => (gc ((((a0.getD p1.toNat default).ZK) != 0) && (((a0.getD p14.toNat default).ZK) != 0)) (M.Jb ((a0.getD p14.toNat default).Zy) ((a0.getD p14.toNat default).ZK))).bind fun r17 => (gc ((((a0.getD p1.toNat default).ZK) != 0) && (((a0.getD p14.toNat default).ZK) != 0)) (M.Vo r16 r17)).bind fun r18 => gd [guardB (((a0.getD p1.toNat default).ZK) != 0) (decide (0 ≤ p14)),guardB (((a0.getD p1.toNat default).ZK) != 0) (decide (p14 < (a0.length : Int))),guardB ((((a0.getD p1.toNat default).ZK) != 0) && (((a0.getD p14.toNat default).ZK) != 0)) (decide (0 ≤ p14)),guardB ((((a0.getD p1.toNat default).ZK) != 0) && (((a0.getD p14.toNat default).ZK) != 0)) (decide (p14 < (a0.length : Int))),guardB ((((a0.getD p1.toNat default).ZK) != 0) && (((a0.getD p14.toNat default).ZK) != 0)) (decide (0 ≤ p14)),guardB ((((a0.getD p1.toNat default).ZK) != 0) && (((a0.getD p14.toNat default).ZK) != 0)) (decide (p14 < (a0.length : Int)))] (bif ((((a0.getD p1.toNat default).ZK) != 0) && (((a0.getD p14.toNat default).ZK) != 0)) && r18 then (some (.inr (.inr 6))) else (some (.inl (wr .i64 (p14 + 1)))))) else (some (.inr (.inl ())))
noncomputable def M.QS (a0 : List ZB) (p1 : Int) : Option (Int ⊕ (Unit ⊕ Int)) :=
 bif decide (p1 < (a0.length : Int)) then (gd [decide (0 ≤ p1),decide (p1 < (a0.length : Int))] ((M.Jr ((a0.getD p1.toNat default).ZJ)).bind fun r3 => bif !r3 then (some (.inr (.inr 3))) else ((loopM (M.Jp a0 p1) 0).bind fun y6 => Sum.elim (fun _ => (M.ZD ((a0.getD p1.toNat default).ZK) 0 32).bind fun r9 => (gc (!(!r9)) (M.ZD ((a0.getD p1.toNat default).XF) 0 4094)).bind fun r10 => (gc (!((!r9) || (!r10))) (M.ZD ((a0.getD p1.toNat default).Rr) 0 2)).bind fun r11 => bif ((!r9) || (!r10)) || (!r11) then (some (.inr (.inr 1))) else (bif ((((a0.getD p1.toNat default).ZK) == 0) && (((((((((a0.getD p1.toNat default).Zy) != 0) || (((a0.getD p1.toNat default).XF) != 0)) || (((a0.getD p1.toNat default).Rr) != 0)) || ((a0.getD p1.toNat default).X0)) || ((a0.getD p1.toNat default).Ya)) || (!strEq ((a0.getD p1.toNat default).Vr) (⟨#[]⟩ : ByteArray))) || (!strEq ((a0.getD p1.toNat default).YD) (⟨#[]⟩ : ByteArray)))) || ((((a0.getD p1.toNat default).ZK) != 0) && (((a0.getD p1.toNat default).Zy) == 0)) then (some (.inr (.inr 1))) else ((gc ((a0.getD p1.toNat default).X0) (M.ZD ((a0.getD p1.toNat default).JW) 0 255)).bind fun r12 => (gc (((a0.getD p1.toNat default).X0) && !(!r12)) (M.ZD ((a0.getD p1.toNat default).K5) 1 65535)).bind fun r13 => bif (((a0.getD p1.toNat default).X0) && ((!r12) || (!r13))) || ((!((a0.getD p1.toNat default).X0)) && ((((a0.getD p1.toNat default).JW) != 0) || (((a0.getD p1.toNat default).K5) != 0))) then (some (.inr (.inr 1))) else ((loopM (M.Qo a0 p1) 0).bind fun y19 => Sum.elim (fun _ => some (.inl (wr .i64 (p1 + 1)))) (fun y21 => some (.inr (.inr y21))) y19)))) (fun y8 => some (.inr (.inr y8))) y6))) else (some (.inr (.inl ())))
noncomputable def M.Jw (a0 : List ZB) : Option Int :=
 bif decide ((a0.length : Int) > 8) then (some 7) else ((loopM (M.QS a0) 0).bind fun y22 => Sum.elim (fun _ => some 0) (fun y24 => some y24) y22)
noncomputable def M.YY (a0 : ZS) : Option Bool :=
 (gc ((decide (a0.ZK ≥ 0)) && (decide (a0.ZK ≤ 32))) (M.VI a0.ZK)).bind fun r1 => some (((decide (a0.ZK ≥ 0)) && (decide (a0.ZK ≤ 32))) && ((bitD .andNot .u32 a0.Zy r1) == 0))
noncomputable def M.QB (a0 : VC) : Option Bool :=
 (M.YY a0.Zp).bind fun r1 => some (((r1 && (decide (a0.Zp.ZK ≤ a0.Zbm))) && (decide (a0.Zbm ≤ a0.Zbn))) && (decide (a0.Zbn ≤ 32)))
noncomputable def M.QW (a0 : List ZF) (p1 : Int) (p4 : Int) : Option (Int ⊕ (Unit ⊕ Int)) :=
 bif decide (p4 < p1) then (gd [decide (0 ≤ p4),decide (p4 < (a0.length : Int)),decide (0 ≤ p1),decide (p1 < (a0.length : Int))] (bif strEq ((a0.getD p4.toNat default).ZJ) ((a0.getD p1.toNat default).ZJ) then (some (.inr (.inr 4))) else (some (.inl (wr .i64 (p4 + 1)))))) else (some (.inr (.inl ())))
noncomputable def M.Qs (a0 : List ZF) (p1 : Int) (p9 : Int) : Option (Int ⊕ (Unit ⊕ Int)) :=
 gd [decide (0 ≤ p1),decide (p1 < (a0.length : Int))] (bif decide (p9 < (((a0.getD p1.toNat default).Z0).length : Int)) then ((M.QB (((a0.getD p1.toNat default).Z0).getD p9.toNat default)).bind fun r11 => gd [decide (0 ≤ p1),decide (p1 < (a0.length : Int)),decide (0 ≤ p9),decide (p9 < (((a0.getD p1.toNat default).Z0).length : Int))] (bif !r11 then (some (.inr (.inr 1))) else (some (.inl (wr .i64 (p9 + 1)))))) else (some (.inr (.inl ()))))
noncomputable def M.Qt (a0 : List ZF) (p1 : Int) : Option (Int ⊕ (Unit ⊕ Int)) :=
 bif decide (p1 < (a0.length : Int)) then ((M.Jr ((a0.getD p1.toNat default).ZJ)).bind fun r3 => gd [decide (0 ≤ p1),decide (p1 < (a0.length : Int))] (bif !r3 then (some (.inr (.inr 3))) else ((loopM (M.QW a0 p1) 0).bind fun y6 => Sum.elim (fun _ => gd [decide (0 ≤ p1),decide (p1 < (a0.length : Int))] (bif (((a0.getD p1.toNat default).Z0).length : Int) == 0 then (some (.inr (.inr 1))) else (gd [decide (0 ≤ p1),decide (p1 < (a0.length : Int))] (bif decide ((((a0.getD p1.toNat default).Z0).length : Int) > 16) then (some (.inr (.inr 7))) else ((loopM (M.Qs a0 p1) 0).bind fun y12 => Sum.elim (fun _ => some (.inl (wr .i64 (p1 + 1)))) (fun y14 => some (.inr (.inr y14))) y12))))) (fun y8 => some (.inr (.inr y8))) y6))) else (some (.inr (.inl ())))
noncomputable def M.Q3 (a0 : List ZF) : Option Int :=
 bif decide ((a0.length : Int) > 8) then (some 7) else ((loopM (M.Qt a0) 0).bind fun y15 => Sum.elim (fun _ => some 0) (fun y17 => some y17) y15)
noncomputable def M.JV (a0 : Zf) (a1 : ByteArray) (p1 : Int) : Option (Int ⊕ (Unit ⊕ Int)) :=
 bif decide (p1 < (a0.Z1.length : Int)) then (gd [decide (0 ≤ p1),decide (p1 < (a0.Z1.length : Int))] (bif strEq ((a0.Z1.getD p1.toNat default).ZJ) a1 then (some (.inr (.inr p1))) else (some (.inl (wr .i64 (p1 + 1)))))) else (some (.inr (.inl ())))
noncomputable def M.QH (a0 : Zf) (a1 : ByteArray) : Option Int :=
 (loopM (M.JV a0 a1) 0).bind fun y3 => Sum.elim (fun _ => some (-1)) (fun y5 => some y5) y3
noncomputable def M.JK (a0 : Zf) (p1 : Int) (p4 : Int) : Option (Int ⊕ (Unit ⊕ Int)) :=
 bif decide (p4 < p1) then (gd [decide (0 ≤ p4),decide (p4 < (a0.ZR.length : Int)),decide (0 ≤ p1),decide (p1 < (a0.ZR.length : Int))] (bif strEq ((a0.ZR.getD p4.toNat default).ZJ) ((a0.ZR.getD p1.toNat default).ZJ) then (some (.inr (.inr 4))) else (some (.inl (wr .i64 (p4 + 1)))))) else (some (.inr (.inl ())))
noncomputable def M.Jc (a0 : Zf) (p1 : Int) (p9 : Int) : Option (Int ⊕ (Unit ⊕ Int)) :=
 gd [decide (0 ≤ p1),decide (p1 < (a0.ZR.length : Int))] (bif decide (p9 < (((a0.ZR.getD p1.toNat default).Z4).length : Int)) then (gd [decide (0 ≤ p1),decide (p1 < (a0.ZR.length : Int)),decide (0 ≤ p9),decide (p9 < (((a0.ZR.getD p1.toNat default).Z4).length : Int))] ((gc (!strEq ((((a0.ZR.getD p1.toNat default).Z4).getD p9.toNat default).QE) (⟨#[]⟩ : ByteArray)) (M.QH a0 ((((a0.ZR.getD p1.toNat default).Z4).getD p9.toNat default).QE))).bind fun r11 => bif (!strEq ((((a0.ZR.getD p1.toNat default).Z4).getD p9.toNat default).QE) (⟨#[]⟩ : ByteArray)) && (decide (r11 < 0)) then (some (.inr (.inr 5))) else ((M.ZD ((((a0.ZR.getD p1.toNat default).Z4).getD p9.toNat default).UK) (-1) 65535).bind fun r12 => (gc (!(!r12)) (M.ZD ((((a0.ZR.getD p1.toNat default).Z4).getD p9.toNat default).GN) (-1) 65535)).bind fun r13 => (gc (!((!r12) || (!r13))) (M.ZD ((((a0.ZR.getD p1.toNat default).Z4).getD p9.toNat default).WB) (-1) 16777215)).bind fun r14 => (gc (!(((!r12) || (!r13)) || (!r14))) (M.ZD ((((a0.ZR.getD p1.toNat default).Z4).getD p9.toNat default).UU) (-1) 1000000)).bind fun r15 => (gc (!((((!r12) || (!r13)) || (!r14)) || (!r15))) (M.ZD ((((a0.ZR.getD p1.toNat default).Z4).getD p9.toNat default).UV) 0 8)).bind fun r16 => bif ((((!r12) || (!r13)) || (!r14)) || (!r15)) || (!r16) then (some (.inr (.inr 1))) else (some (.inl (wr .i64 (p9 + 1))))))) else (some (.inr (.inl ()))))
noncomputable def M.Jd (a0 : Zf) (p1 : Int) : Option (Int ⊕ (Unit ⊕ Int)) :=
 bif decide (p1 < (a0.ZR.length : Int)) then ((M.Jr ((a0.ZR.getD p1.toNat default).ZJ)).bind fun r3 => gd [decide (0 ≤ p1),decide (p1 < (a0.ZR.length : Int))] (bif !r3 then (some (.inr (.inr 3))) else ((loopM (M.JK a0 p1) 0).bind fun y6 => Sum.elim (fun _ => gd [decide (0 ≤ p1),decide (p1 < (a0.ZR.length : Int))] (bif (((a0.ZR.getD p1.toNat default).Z4).length : Int) == 0 then (some (.inr (.inr 1))) else (gd [decide (0 ≤ p1),decide (p1 < (a0.ZR.length : Int))] (bif decide ((((a0.ZR.getD p1.toNat default).Z4).length : Int) > 8) then (some (.inr (.inr 7))) else ((loopM (M.Jc a0 p1) 0).bind fun y17 => Sum.elim (fun _ => some (.inl (wr .i64 (p1 + 1)))) (fun y19 => some (.inr (.inr y19))) y17))))) (fun y8 => some (.inr (.inr y8))) y6))) else (some (.inr (.inl ())))
noncomputable def M.J1 (a0 : Zf) : Option Int :=
 bif decide ((a0.ZR.length : Int) > 8) then (some 7) else ((loopM (M.Jd a0) 0).bind fun y20 => Sum.elim (fun _ => some 0) (fun y22 => some y22) y20)
noncomputable def M.Wl (a0 : Vd) : Option Bool :=
 some (((decide (0 ≤ a0.Gv)) && (decide (a0.Gv ≤ a0.G4))) && (decide (a0.G4 ≤ 65535)))
noncomputable def M.Gm (a0 : Vd) : Option Bool :=
 some ((a0.Gv == 0) && ((a0.G4 == 65535) && true))
noncomputable def M.Vi (a0 : Ku) : Option Bool :=
 (M.ZD a0.Yc (-1) 255).bind fun r1 => (gc (!(((!r1) || ((bitD .and .u32 a0.KX.Zy a0.KX.U7) != 0)) || ((bitD .and .u32 a0.KY.Zy a0.KY.U7) != 0))) (M.Wl a0.JR)).bind fun r2 => (gc (!((((!r1) || ((bitD .and .u32 a0.KX.Zy a0.KX.U7) != 0)) || ((bitD .and .u32 a0.KY.Zy a0.KY.U7) != 0)) || (!r2))) (M.Wl a0.JS)).bind fun r3 => bif ((((!r1) || ((bitD .and .u32 a0.KX.Zy a0.KX.U7) != 0)) || ((bitD .and .u32 a0.KY.Zy a0.KY.U7) != 0)) || (!r2)) || (!r3) then (some false) else ((gc (!((a0.Yc == 6) || (a0.Yc == 17))) (M.Gm a0.JR)).bind fun r4 => (gc ((!((a0.Yc == 6) || (a0.Yc == 17))) && r4) (M.Gm a0.JS)).bind fun r5 => some (((a0.Yc == 6) || (a0.Yc == 17)) || (r4 && r5)))
noncomputable def M.QX (a0 : List V2) (p1 : Int) (p4 : Int) : Option (Int ⊕ (Unit ⊕ Int)) :=
 bif decide (p4 < p1) then (gd [decide (0 ≤ p4),decide (p4 < (a0.length : Int)),decide (0 ≤ p1),decide (p1 < (a0.length : Int))] (bif strEq ((a0.getD p4.toNat default).ZJ) ((a0.getD p1.toNat default).ZJ) then (some (.inr (.inr 4))) else (some (.inl (wr .i64 (p4 + 1)))))) else (some (.inr (.inl ())))
noncomputable def M.Qu (a0 : List V2) (p1 : Int) (p9 : Int) : Option (Int ⊕ (Unit ⊕ Int)) :=
 gd [decide (0 ≤ p1),decide (p1 < (a0.length : Int))] (bif decide (p9 < (((a0.getD p1.toNat default).Z0).length : Int)) then ((M.Vi (((a0.getD p1.toNat default).Z0).getD p9.toNat default)).bind fun r11 => gd [decide (0 ≤ p1),decide (p1 < (a0.length : Int)),decide (0 ≤ p9),decide (p9 < (((a0.getD p1.toNat default).Z0).length : Int))] (bif !r11 then (some (.inr (.inr 1))) else (some (.inl (wr .i64 (p9 + 1)))))) else (some (.inr (.inl ()))))
noncomputable def M.Qv (a0 : List V2) (p1 : Int) : Option (Int ⊕ (Unit ⊕ Int)) :=
 bif decide (p1 < (a0.length : Int)) then ((M.Jr ((a0.getD p1.toNat default).ZJ)).bind fun r3 => gd [decide (0 ≤ p1),decide (p1 < (a0.length : Int))] (bif !r3 then (some (.inr (.inr 3))) else ((loopM (M.QX a0 p1) 0).bind fun y6 => Sum.elim (fun _ => gd [decide (0 ≤ p1),decide (p1 < (a0.length : Int))] (bif (((a0.getD p1.toNat default).Z0).length : Int) == 0 then (some (.inr (.inr 1))) else (gd [decide (0 ≤ p1),decide (p1 < (a0.length : Int))] (bif decide ((((a0.getD p1.toNat default).Z0).length : Int) > 16) then (some (.inr (.inr 7))) else ((loopM (M.Qu a0 p1) 0).bind fun y12 => Sum.elim (fun _ => some (.inl (wr .i64 (p1 + 1)))) (fun y14 => some (.inr (.inr y14))) y12))))) (fun y8 => some (.inr (.inr y8))) y6))) else (some (.inr (.inl ())))
noncomputable def M.Q4 (a0 : List V2) : Option Int :=
 bif decide ((a0.length : Int) > 8) then (some 7) else ((loopM (M.Qv a0) 0).bind fun y15 => Sum.elim (fun _ => some 0) (fun y17 => some y17) y15)
noncomputable def M.Us (a0 : Zf) (a1 : ByteArray) (p1 : Int) : Option (Int ⊕ (Unit ⊕ Int)) :=
 bif decide (p1 < (a0.Xh.length : Int)) then (gd [decide (0 ≤ p1),decide (p1 < (a0.Xh.length : Int))] (bif strEq ((a0.Xh.getD p1.toNat default).ZJ) a1 then (some (.inr (.inr p1))) else (some (.inl (wr .i64 (p1 + 1)))))) else (some (.inr (.inl ())))
noncomputable def M.Ut (a0 : Zf) (a1 : ByteArray) : Option Int :=
 (loopM (M.Us a0 a1) 0).bind fun y3 => Sum.elim (fun _ => some (-1)) (fun y5 => some y5) y3
noncomputable def M.Yb (a0 : Zf) (p1 : Int) (p3 : Bool) : Option (Int ⊕ (Unit ⊕ Int)) :=
 bif !p3 then (some (.inr (.inr 1))) else ((gc (((a0.Xf.getD p1.toNat default).JX) == 2) (M.Ut a0 ((a0.Xf.getD p1.toNat default).QE))).bind fun r4 => bif (((a0.Xf.getD p1.toNat default).JX) == 2) && (decide (r4 < 0)) then (some (.inr (.inr 5))) else (some (.inl (wr .i64 (p1 + 1)))))
noncomputable def M.Qc (a0 : Zf) (p1 : Int) : Option (Int ⊕ (Unit ⊕ Int)) :=
 bif decide (p1 < (a0.Xf.length : Int)) then (gd [decide (0 ≤ p1),decide (p1 < (a0.Xf.length : Int))] (bif ((a0.Xf.getD p1.toNat default).JX) == 1 then (M.Yb a0 p1 (((((a0.Xf.getD p1.toNat default).Qj) != 0) && (((a0.Xf.getD p1.toNat default).Yv) != 0)) && ((((a0.Xf.getD p1.toNat default).JX) == ((a0.Xf.getD p1.toNat default).JX)) && ((((a0.Xf.getD p1.toNat default).Qj) == ((a0.Xf.getD p1.toNat default).Qj)) && ((((a0.Xf.getD p1.toNat default).Yv) == ((a0.Xf.getD p1.toNat default).Yv)) && ((((a0.Xf.getD p1.toNat default).Yc) == 0) && ((((a0.Xf.getD p1.toNat default).Qp) == 0) && ((((a0.Xf.getD p1.toNat default).YO) == 0) && (strEq ((a0.Xf.getD p1.toNat default).QE) (⟨#[]⟩ : ByteArray) && ((((a0.Xf.getD p1.toNat default).Gv) == 0) && ((((a0.Xf.getD p1.toNat default).G4) == 0) && true))))))))))) else (bif ((a0.Xf.getD p1.toNat default).JX) == 2 then (M.Yb a0 p1 ((((((a0.Xf.getD p1.toNat default).Gv) != 0) && (decide (((a0.Xf.getD p1.toNat default).Gv) ≤ ((a0.Xf.getD p1.toNat default).G4)))) && (decide ((wr .u32 (((a0.Xf.getD p1.toNat default).G4) - ((a0.Xf.getD p1.toNat default).Gv))) < 8))) && ((((a0.Xf.getD p1.toNat default).JX) == ((a0.Xf.getD p1.toNat default).JX)) && ((((a0.Xf.getD p1.toNat default).Qj) == 0) && ((((a0.Xf.getD p1.toNat default).Yv) == 0) && ((((a0.Xf.getD p1.toNat default).Yc) == 0) && ((((a0.Xf.getD p1.toNat default).Qp) == 0) && ((((a0.Xf.getD p1.toNat default).YO) == 0) && (strEq ((a0.Xf.getD p1.toNat default).QE) ((a0.Xf.getD p1.toNat default).QE) && ((((a0.Xf.getD p1.toNat default).Gv) == ((a0.Xf.getD p1.toNat default).Gv)) && ((((a0.Xf.getD p1.toNat default).G4) == ((a0.Xf.getD p1.toNat default).G4)) && true))))))))))) else (bif ((a0.Xf.getD p1.toNat default).JX) == 3 then ((gc (((((a0.Xf.getD p1.toNat default).Qj) != 0) && (((a0.Xf.getD p1.toNat default).Yv) != 0)) && ((((a0.Xf.getD p1.toNat default).Yc) == 6) || (((a0.Xf.getD p1.toNat default).Yc) == 17))) (M.ZD ((a0.Xf.getD p1.toNat default).Qp) 0 65535)).bind fun r5 => (gc ((((((a0.Xf.getD p1.toNat default).Qj) != 0) && (((a0.Xf.getD p1.toNat default).Yv) != 0)) && ((((a0.Xf.getD p1.toNat default).Yc) == 6) || (((a0.Xf.getD p1.toNat default).Yc) == 17))) && r5) (M.ZD ((a0.Xf.getD p1.toNat default).YO) 0 65535)).bind fun r6 => M.Yb a0 p1 ((((((((((a0.Xf.getD p1.toNat default).Qj) != 0) && (((a0.Xf.getD p1.toNat default).Yv) != 0)) && ((((a0.Xf.getD p1.toNat default).Yc) == 6) || (((a0.Xf.getD p1.toNat default).Yc) == 17))) && r5) && r6) && (strEq ((a0.Xf.getD p1.toNat default).QE) (⟨#[]⟩ : ByteArray))) && (((a0.Xf.getD p1.toNat default).Gv) == 0)) && (((a0.Xf.getD p1.toNat default).G4) == 0))) else (M.Yb a0 p1 false))))) else (some (.inr (.inl ())))
noncomputable def M.QI (a0 : Zf) : Option Int :=
 bif decide ((a0.Xf.length : Int) > 8) then (some 7) else ((loopM (M.Qc a0) 0).bind fun y7 => Sum.elim (fun _ => some 0) (fun y9 => some y9) y7)
noncomputable def M.VU (a0 : Zf) (p1 : Int) : Option (Int ⊕ (Unit ⊕ Int)) :=
 bif decide (p1 < (a0.Zc.length : Int)) then (gd [decide (0 ≤ p1),decide (p1 < (a0.Zc.length : Int))] ((gc (!strEq ((a0.Zc.getD p1.toNat default).Vr) (⟨#[]⟩ : ByteArray)) (M.Ut a0 ((a0.Zc.getD p1.toNat default).Vr))).bind fun r3 => (gc ((!((!strEq ((a0.Zc.getD p1.toNat default).Vr) (⟨#[]⟩ : ByteArray)) && (decide (r3 < 0)))) && (!strEq ((a0.Zc.getD p1.toNat default).YD) (⟨#[]⟩ : ByteArray))) (M.Ut a0 ((a0.Zc.getD p1.toNat default).YD))).bind fun r4 => bif ((!strEq ((a0.Zc.getD p1.toNat default).Vr) (⟨#[]⟩ : ByteArray)) && (decide (r3 < 0))) || ((!strEq ((a0.Zc.getD p1.toNat default).YD) (⟨#[]⟩ : ByteArray)) && (decide (r4 < 0))) then (some (.inr (.inr 5))) else (some (.inl (wr .i64 (p1 + 1)))))) else (some (.inr (.inl ())))
noncomputable def M.Wm (a0 : Zf) : Option Int :=
 (loopM (M.VU a0) 0).bind fun y5 => Sum.elim (fun _ => some 0) (fun y7 => some y7) y5
noncomputable def M.VV (a0 : Zf) (a1 : Int) (p1 : Int) : Option (Int ⊕ (Unit ⊕ Int)) :=
 bif decide (p1 < (a0.Zc.length : Int)) then (gd [decide (0 ≤ p1),decide (p1 < (a0.Zc.length : Int)),guardB (((a0.Zc.getD p1.toNat default).ZK) != 0) (decide (0 ≤ p1)),guardB (((a0.Zc.getD p1.toNat default).ZK) != 0) (decide (p1 < (a0.Zc.length : Int)))] (bif (((a0.Zc.getD p1.toNat default).ZK) != 0) && (((a0.Zc.getD p1.toNat default).Zy) == a1) then (some (.inr (.inr p1))) else (some (.inl (wr .i64 (p1 + 1)))))) else (some (.inr (.inl ())))
noncomputable def M.Je (a0 : Zf) (a1 : Int) : Option Int :=
 (loopM (M.VV a0 a1) 0).bind fun y3 => Sum.elim (fun _ => some (-1)) (fun y5 => some y5) y3
noncomputable def M.JL (a0 : Zf) (a1 : ByteArray) (p1 : Int) : Option (Int ⊕ (Unit ⊕ Int)) :=
 bif decide (p1 < (a0.Zc.length : Int)) then (gd [decide (0 ≤ p1),decide (p1 < (a0.Zc.length : Int))] (bif strEq ((a0.Zc.getD p1.toNat default).ZJ) a1 then (some (.inr (.inr p1))) else (some (.inl (wr .i64 (p1 + 1)))))) else (some (.inr (.inl ())))
noncomputable def M.J2 (a0 : Zf) (a1 : ByteArray) : Option Int :=
 (loopM (M.JL a0 a1) 0).bind fun y3 => Sum.elim (fun _ => some (-1)) (fun y5 => some y5) y3
noncomputable def M.Jx (a0 : Zf) (p1 : Int) (p11 : Int) : Option (Int ⊕ (Unit ⊕ Int)) :=
 bif decide (p11 < p1) then (gd [decide (0 ≤ p11),decide (p11 < (a0.Zr.length : Int)),guardB (((((a0.Zr.getD p11.toNat default).Zp).Zy) == (((a0.Zr.getD p1.toNat default).Zp).Zy)) && (((((a0.Zr.getD p11.toNat default).Zp).ZK) == (((a0.Zr.getD p1.toNat default).Zp).ZK)) && true)) (decide (0 ≤ p11)),guardB (((((a0.Zr.getD p11.toNat default).Zp).Zy) == (((a0.Zr.getD p1.toNat default).Zp).Zy)) && (((((a0.Zr.getD p11.toNat default).Zp).ZK) == (((a0.Zr.getD p1.toNat default).Zp).ZK)) && true)) (decide (p11 < (a0.Zr.length : Int)))] (bif (((((a0.Zr.getD p11.toNat default).Zp).Zy) == (((a0.Zr.getD p1.toNat default).Zp).Zy)) && (((((a0.Zr.getD p11.toNat default).Zp).ZK) == (((a0.Zr.getD p1.toNat default).Zp).ZK)) && true)) && (((a0.Zr.getD p11.toNat default).Xd) == ((a0.Zr.getD p1.toNat default).Xd)) then (some (.inr (.inr 6))) else (some (.inl (wr .i64 (p11 + 1)))))) else (some (.inr (.inl ())))
noncomputable def M.Jy (a0 : Zf) (p1 : Int) (_p10 : Unit) : Option (Int ⊕ (Unit ⊕ Int)) :=
 (loopM (M.Jx a0 p1) 0).bind fun y13 => Sum.elim (fun _ => some (.inl (wr .i64 (p1 + 1)))) (fun y15 => some (.inr (.inr y15))) y13
noncomputable def M.Jz (a0 : Zf) (p1 : Int) (p5 : Int) : Option (Int ⊕ (Unit ⊕ Int)) :=
 (M.YY ((a0.Zr.getD p1.toNat default).Zp)).bind fun r6 => (gc ((!((!r6) || (p5 != 1))) && (((a0.Zr.getD p1.toNat default).Ve) != 0)) (M.Je a0 ((a0.Zr.getD p1.toNat default).Ve))).bind fun r7 => (gc (!(((!r6) || (p5 != 1)) || ((((a0.Zr.getD p1.toNat default).Ve) != 0) && (decide (r7 ≥ 0))))) (M.ZD ((a0.Zr.getD p1.toNat default).Xd) 1 255)).bind fun r8 => (gc (!((((!r6) || (p5 != 1)) || ((((a0.Zr.getD p1.toNat default).Ve) != 0) && (decide (r7 ≥ 0)))) || (!r8))) (M.ZD ((a0.Zr.getD p1.toNat default).UK) 0 65535)).bind fun r9 => bif ((((!r6) || (p5 != 1)) || ((((a0.Zr.getD p1.toNat default).Ve) != 0) && (decide (r7 ≥ 0)))) || (!r8)) || (!r9) then (some (.inr (.inr 1))) else (bif !strEq ((a0.Zr.getD p1.toNat default).Qx) (⟨#[]⟩ : ByteArray) then ((M.J2 a0 ((a0.Zr.getD p1.toNat default).Qx)).bind fun r16 => bif decide (r16 < 0) then (some (.inr (.inr 5))) else (gd [decide (0 ≤ r16),decide (r16 < (a0.Zc.length : Int))] (bif ((a0.Zc.getD r16.toNat default).ZK) == 0 then (some (.inr (.inr 1))) else (M.Jy a0 p1 ())))) else (M.Jy a0 p1 ()))
noncomputable def M.JA (a0 : Zf) (p1 : Int) (p4 : Int) : Option (Int ⊕ (Unit ⊕ Int)) :=
 bif (a0.Zr.getD p1.toNat default).Vf then (M.Jz a0 p1 (wr .i64 (p4 + 1))) else (M.Jz a0 p1 p4)
noncomputable def M.JB (a0 : Zf) (p1 : Int) (p3 : Int) : Option (Int ⊕ (Unit ⊕ Int)) :=
 bif !strEq ((a0.Zr.getD p1.toNat default).Qx) (⟨#[]⟩ : ByteArray) then (M.JA a0 p1 (wr .i64 (p3 + 1))) else (M.JA a0 p1 p3)
noncomputable def M.J3 (a0 : Zf) (p1 : Int) : Option (Int ⊕ (Unit ⊕ Int)) :=
 bif decide (p1 < (a0.Zr.length : Int)) then (gd [decide (0 ≤ p1),decide (p1 < (a0.Zr.length : Int))] (bif ((a0.Zr.getD p1.toNat default).Ve) != 0 then (M.JB a0 p1 1) else (M.JB a0 p1 0))) else (some (.inr (.inl ())))
noncomputable def M.VW (a0 : Zf) : Option Int :=
 bif decide ((a0.Zr.length : Int) > 16) then (some 7) else ((loopM (M.J3 a0) 0).bind fun y17 => Sum.elim (fun _ => some 0) (fun y19 => some y19) y17)
noncomputable def M.Vv (a0 : Zf) (a1 : ByteArray) (p1 : Int) : Option (Int ⊕ (Unit ⊕ Int)) :=
 bif decide (p1 < (a0.ZR.length : Int)) then (gd [decide (0 ≤ p1),decide (p1 < (a0.ZR.length : Int))] (bif strEq ((a0.ZR.getD p1.toNat default).ZJ) a1 then (some (.inr (.inr p1))) else (some (.inl (wr .i64 (p1 + 1)))))) else (some (.inr (.inl ())))
noncomputable def M.JM (a0 : Zf) (a1 : ByteArray) : Option Int :=
 (loopM (M.Vv a0 a1) 0).bind fun y3 => Sum.elim (fun _ => some (-1)) (fun y5 => some y5) y3
noncomputable def M.Yo (a1 : List Yi) (p1 : Int) (p7 : Int) : Option (Int ⊕ (Unit ⊕ Int)) :=
 bif decide (p7 < p1) then (gd [decide (0 ≤ p7),decide (p7 < (a1.length : Int))] (bif ((a1.getD p7.toNat default).WT) == ((a1.getD p1.toNat default).WT) then (some (.inr (.inr 4))) else (some (.inl (wr .i64 (p7 + 1)))))) else (some (.inr (.inl ())))
noncomputable def M.YC (a0 : Zf) (a1 : List Yi) (a2 : Int) (a3 : Int) (a4 : Int) (p1 : Int) : Option (Int ⊕ (Unit ⊕ Int)) :=
 bif decide (p1 < (a1.length : Int)) then (gd [decide (0 ≤ p1),decide (p1 < (a1.length : Int))] ((M.ZD ((a1.getD p1.toNat default).WT) 1 5).bind fun r3 => (gc (!((!r3) || (((a1.getD p1.toNat default).WT) == a2))) (M.ZD ((a1.getD p1.toNat default).Kv) a3 a4)).bind fun r4 => (gc (!(((!r3) || (((a1.getD p1.toNat default).WT) == a2)) || (!r4))) (M.ZD ((a1.getD p1.toNat default).UK) 0 65535)).bind fun r5 => bif (((!r3) || (((a1.getD p1.toNat default).WT) == a2)) || (!r4)) || (!r5) then (some (.inr (.inr 1))) else (bif (((a2 == 3) && (((a1.getD p1.toNat default).Ke) != 1)) && (((a1.getD p1.toNat default).Ke) != 2)) || ((a2 != 3) && (((a1.getD p1.toNat default).Ke) != 0)) then (some (.inr (.inr 1))) else ((gc (!strEq ((a1.getD p1.toNat default).Rs) (⟨#[]⟩ : ByteArray)) (M.JM a0 ((a1.getD p1.toNat default).Rs))).bind fun r6 => bif (!strEq ((a1.getD p1.toNat default).Rs) (⟨#[]⟩ : ByteArray)) && (decide (r6 < 0)) then (some (.inr (.inr 5))) else ((loopM (M.Yo a1 p1) 0).bind fun y9 => Sum.elim (fun _ => some (.inl (wr .i64 (p1 + 1)))) (fun y11 => some (.inr (.inr y11))) y9))))) else (some (.inr (.inl ())))
noncomputable def M.Yf (a0 : Zf) (a1 : List Yi) (a2 : Int) (a3 : Int) (a4 : Int) : Option Int :=
 bif decide ((a1.length : Int) > 4) then (some 7) else ((loopM (M.YC a0 a1 a2 a3 a4) 0).bind fun y12 => Sum.elim (fun _ => some 0) (fun y14 => some y14) y12)
noncomputable def M.Jf (a0 : Zf) (p2 : Int) (p6 : Int) : Option (Int ⊕ (Unit ⊕ Int)) :=
 bif decide (p6 < p2) then ((gc (((a0.X0.ZE.getD p6.toNat default).JW) == ((a0.X0.ZE.getD p2.toNat default).JW)) (M.Vo ((a0.X0.ZE.getD p6.toNat default).Zp) ((a0.X0.ZE.getD p2.toNat default).Zp))).bind fun r8 => gd [decide (0 ≤ p6),decide (p6 < (a0.X0.ZE.length : Int)),decide (0 ≤ p2),decide (p2 < (a0.X0.ZE.length : Int)),guardB (((a0.X0.ZE.getD p6.toNat default).JW) == ((a0.X0.ZE.getD p2.toNat default).JW)) (decide (0 ≤ p6)),guardB (((a0.X0.ZE.getD p6.toNat default).JW) == ((a0.X0.ZE.getD p2.toNat default).JW)) (decide (p6 < (a0.X0.ZE.length : Int))),guardB (((a0.X0.ZE.getD p6.toNat default).JW) == ((a0.X0.ZE.getD p2.toNat default).JW)) (decide (0 ≤ p2)),guardB (((a0.X0.ZE.getD p6.toNat default).JW) == ((a0.X0.ZE.getD p2.toNat default).JW)) (decide (p2 < (a0.X0.ZE.length : Int)))] (bif (((a0.X0.ZE.getD p6.toNat default).JW) == ((a0.X0.ZE.getD p2.toNat default).JW)) && r8 then (some (.inr (.inr 6))) else (some (.inl (wr .i64 (p6 + 1)))))) else (some (.inr (.inl ())))
noncomputable def M.Jg (a0 : Zf) (p2 : Int) : Option (Int ⊕ (Unit ⊕ Int)) :=
 bif decide (p2 < (a0.X0.ZE.length : Int)) then ((M.ZD ((a0.X0.ZE.getD p2.toNat default).JW) 0 255).bind fun r4 => (gc (!(!r4)) (M.YY ((a0.X0.ZE.getD p2.toNat default).Zp))).bind fun r5 => gd [decide (0 ≤ p2),decide (p2 < (a0.X0.ZE.length : Int)),guardB (!(!r4)) (decide (0 ≤ p2)),guardB (!(!r4)) (decide (p2 < (a0.X0.ZE.length : Int)))] (bif (!r4) || (!r5) then (some (.inr (.inr 1))) else ((loopM (M.Jf a0 p2) 0).bind fun y9 => Sum.elim (fun _ => some (.inl (wr .i64 (p2 + 1)))) (fun y11 => some (.inr (.inr y11))) y9))) else (some (.inr (.inl ())))
noncomputable def M.J4 (a0 : Zf) : Option Int :=
 bif !a0.X0.Va then (bif ((a0.X0.Xd != 0) || (decide ((a0.X0.ZE.length : Int) > 0))) || (decide ((a0.X0.Zs.length : Int) > 0)) then (some 1) else (some 0)) else ((M.ZD a0.X0.Xd 1 255).bind fun r1 => bif !r1 then (some 1) else (bif decide ((a0.X0.ZE.length : Int) > 4) then (some 7) else ((loopM (M.Jg a0) 0).bind fun y12 => Sum.elim (fun _ => (M.Yf a0 a0.X0.Zs 3 0 16777215).bind fun r15 => some r15) (fun y14 => some y14) y12)))
noncomputable def M.Vp (a0 : Zf) : Option Int :=
 bif !a0.Ya.Va then (bif (((a0.Ya.Xd != 0) || (!strEq a0.Ya.Vr (⟨#[]⟩ : ByteArray))) || (!strEq a0.Ya.YD (⟨#[]⟩ : ByteArray))) || (decide ((a0.Ya.Zs.length : Int) > 0)) then (some 1) else (some 0)) else ((M.ZD a0.Ya.Xd 1 255).bind fun r1 => bif !r1 then (some 1) else ((gc (!strEq a0.Ya.Vr (⟨#[]⟩ : ByteArray)) (M.QH a0 a0.Ya.Vr)).bind fun r2 => (gc ((!((!strEq a0.Ya.Vr (⟨#[]⟩ : ByteArray)) && (decide (r2 < 0)))) && (!strEq a0.Ya.YD (⟨#[]⟩ : ByteArray))) (M.QH a0 a0.Ya.YD)).bind fun r3 => bif ((!strEq a0.Ya.Vr (⟨#[]⟩ : ByteArray)) && (decide (r2 < 0))) || ((!strEq a0.Ya.YD (⟨#[]⟩ : ByteArray)) && (decide (r3 < 0))) then (some 5) else ((M.Yf a0 a0.Ya.Zs 4 1 15).bind fun r4 => some r4)))
noncomputable def M.Jh (a0 : Zf) (p1 : Int) (p6 : Int) : Option (Int ⊕ (Unit ⊕ Int)) :=
 bif decide (p6 < p1) then (gd [decide (0 ≤ p6),decide (p6 < (a0.ZW.Zk.length : Int)),decide (0 ≤ p1),decide (p1 < (a0.ZW.Zk.length : Int))] (bif ((a0.ZW.Zk.getD p6.toNat default).Zy) == ((a0.ZW.Zk.getD p1.toNat default).Zy) then (some (.inr (.inr 4))) else (some (.inl (wr .i64 (p6 + 1)))))) else (some (.inr (.inl ())))
noncomputable def M.Ji (a0 : Zf) (p1 : Int) : Option (Int ⊕ (Unit ⊕ Int)) :=
 bif decide (p1 < (a0.ZW.Zk.length : Int)) then ((gc (!(((a0.ZW.Zk.getD p1.toNat default).Zy) == 0)) (M.ZD ((a0.ZW.Zk.getD p1.toNat default).GA) 1 65535)).bind fun r3 => gd [decide (0 ≤ p1),decide (p1 < (a0.ZW.Zk.length : Int)),guardB (!(((a0.ZW.Zk.getD p1.toNat default).Zy) == 0)) (decide (0 ≤ p1)),guardB (!(((a0.ZW.Zk.getD p1.toNat default).Zy) == 0)) (decide (p1 < (a0.ZW.Zk.length : Int)))] (bif (((a0.ZW.Zk.getD p1.toNat default).Zy) == 0) || (!r3) then (some (.inr (.inr 1))) else ((gc (!strEq ((a0.ZW.Zk.getD p1.toNat default).Vr) (⟨#[]⟩ : ByteArray)) (M.JM a0 ((a0.ZW.Zk.getD p1.toNat default).Vr))).bind fun r4 => (gc ((!((!strEq ((a0.ZW.Zk.getD p1.toNat default).Vr) (⟨#[]⟩ : ByteArray)) && (decide (r4 < 0)))) && (!strEq ((a0.ZW.Zk.getD p1.toNat default).YD) (⟨#[]⟩ : ByteArray))) (M.JM a0 ((a0.ZW.Zk.getD p1.toNat default).YD))).bind fun r5 => gd [decide (0 ≤ p1),decide (p1 < (a0.ZW.Zk.length : Int)),guardB (!strEq ((a0.ZW.Zk.getD p1.toNat default).Vr) (⟨#[]⟩ : ByteArray)) (decide (0 ≤ p1)),guardB (!strEq ((a0.ZW.Zk.getD p1.toNat default).Vr) (⟨#[]⟩ : ByteArray)) (decide (p1 < (a0.ZW.Zk.length : Int))),guardB (!((!strEq ((a0.ZW.Zk.getD p1.toNat default).Vr) (⟨#[]⟩ : ByteArray)) && (decide (r4 < 0)))) (decide (0 ≤ p1)),guardB (!((!strEq ((a0.ZW.Zk.getD p1.toNat default).Vr) (⟨#[]⟩ : ByteArray)) && (decide (r4 < 0)))) (decide (p1 < (a0.ZW.Zk.length : Int))),guardB ((!((!strEq ((a0.ZW.Zk.getD p1.toNat default).Vr) (⟨#[]⟩ : ByteArray)) && (decide (r4 < 0)))) && (!strEq ((a0.ZW.Zk.getD p1.toNat default).YD) (⟨#[]⟩ : ByteArray))) (decide (0 ≤ p1)),guardB ((!((!strEq ((a0.ZW.Zk.getD p1.toNat default).Vr) (⟨#[]⟩ : ByteArray)) && (decide (r4 < 0)))) && (!strEq ((a0.ZW.Zk.getD p1.toNat default).YD) (⟨#[]⟩ : ByteArray))) (decide (p1 < (a0.ZW.Zk.length : Int)))] (bif ((!strEq ((a0.ZW.Zk.getD p1.toNat default).Vr) (⟨#[]⟩ : ByteArray)) && (decide (r4 < 0))) || ((!strEq ((a0.ZW.Zk.getD p1.toNat default).YD) (⟨#[]⟩ : ByteArray)) && (decide (r5 < 0))) then (some (.inr (.inr 5))) else ((loopM (M.Jh a0 p1) 0).bind fun y8 => Sum.elim (fun _ => some (.inl (wr .i64 (p1 + 1)))) (fun y10 => some (.inr (.inr y10))) y8))))) else (some (.inr (.inl ())))
noncomputable def M.Vj (a0 : Zf) : Option Int :=
 bif decide ((a0.ZW.Zk.length : Int) > 8) then (some 7) else ((loopM (M.Ji a0) 0).bind fun y11 => Sum.elim (fun _ => some 0) (fun y13 => some y13) y11)
noncomputable def M.QC (a0 : Xg) (p1 : Int) (p4 : Int) : Option (Int ⊕ (Unit ⊕ Int)) :=
 bif decide (p4 < p1) then (gd [decide (0 ≤ p4),decide (p4 < (a0.Zt.length : Int)),decide (0 ≤ p1),decide (p1 < (a0.Zt.length : Int))] (bif ((((a0.Zt.getD p4.toNat default).Zy) == ((a0.Zt.getD p1.toNat default).Zy)) && ((((a0.Zt.getD p4.toNat default).ZK) == ((a0.Zt.getD p1.toNat default).ZK)) && true)) then (some (.inr (.inr 4))) else (some (.inl (wr .i64 (p4 + 1)))))) else (some (.inr (.inl ())))
noncomputable def M.Qd (a0 : Xg) (p1 : Int) : Option (Int ⊕ (Unit ⊕ Int)) :=
 bif decide (p1 < (a0.Zt.length : Int)) then ((M.YY (a0.Zt.getD p1.toNat default)).bind fun r3 => gd [decide (0 ≤ p1),decide (p1 < (a0.Zt.length : Int))] (bif !r3 then (some (.inr (.inr 1))) else ((loopM (M.QC a0 p1) 0).bind fun y6 => Sum.elim (fun _ => some (.inl (wr .i64 (p1 + 1)))) (fun y8 => some (.inr (.inr y8))) y6))) else (some (.inr (.inl ())))
noncomputable def M.Qe (a0 : Xg) (p12 : Int) (p15 : Int) : Option (Int ⊕ (Unit ⊕ Int)) :=
 bif decide (p15 < p12) then (gd [decide (0 ≤ p15),decide (p15 < (a0.Zq.length : Int)),decide (0 ≤ p12),decide (p12 < (a0.Zq.length : Int))] (bif (((((a0.Zq.getD p15.toNat default).Zp).Zy) == (((a0.Zq.getD p12.toNat default).Zp).Zy)) && (((((a0.Zq.getD p15.toNat default).Zp).ZK) == (((a0.Zq.getD p12.toNat default).Zp).ZK)) && true)) then (some (.inr (.inr 4))) else (some (.inl (wr .i64 (p15 + 1)))))) else (some (.inr (.inl ())))
noncomputable def M.Qf (a0 : Xg) (p12 : Int) : Option (Int ⊕ (Unit ⊕ Int)) :=
 bif decide (p12 < (a0.Zq.length : Int)) then ((M.YY ((a0.Zq.getD p12.toNat default).Zp)).bind fun r14 => gd [decide (0 ≤ p12),decide (p12 < (a0.Zq.length : Int))] (bif !r14 then (some (.inr (.inr 1))) else ((loopM (M.Qe a0 p12) 0).bind fun y17 => Sum.elim (fun _ => some (.inl (wr .i64 (p12 + 1)))) (fun y19 => some (.inr (.inr y19))) y17))) else (some (.inr (.inl ())))
noncomputable def M.Qg (a0 : Xg) (p23 : Int) (p27 : Int) : Option (Int ⊕ (Unit ⊕ Int)) :=
 bif decide (p27 < p23) then (gd [decide (0 ≤ p27),decide (p27 < (a0.Zm.length : Int))] (bif (((((a0.Zm.getD p27.toNat default).Zp).Zy) == (((a0.Zm.getD p23.toNat default).Zp).Zy)) && (((((a0.Zm.getD p27.toNat default).Zp).ZK) == (((a0.Zm.getD p23.toNat default).Zp).ZK)) && true)) then (some (.inr (.inr 4))) else (some (.inl (wr .i64 (p27 + 1)))))) else (some (.inr (.inl ())))
noncomputable def M.Qh (a0 : Xg) (p23 : Int) : Option (Int ⊕ (Unit ⊕ Int)) :=
 bif decide (p23 < (a0.Zm.length : Int)) then (gd [decide (0 ≤ p23),decide (p23 < (a0.Zm.length : Int))] ((M.YY ((a0.Zm.getD p23.toNat default).Zp)).bind fun r25 => (gc (!(!r25)) (M.YY ((a0.Zm.getD p23.toNat default).fIf))).bind fun r26 => bif (!r25) || (!r26) then (some (.inr (.inr 1))) else (bif (((((a0.Zm.getD p23.toNat default).Zp).Zy) == (((a0.Zm.getD p23.toNat default).fIf).Zy)) && (((((a0.Zm.getD p23.toNat default).Zp).ZK) == (((a0.Zm.getD p23.toNat default).fIf).ZK)) && true)) then (some (.inr (.inr 6))) else ((loopM (M.Qg a0 p23) 0).bind fun y29 => Sum.elim (fun _ => some (.inl (wr .i64 (p23 + 1)))) (fun y31 => some (.inr (.inr y31))) y29)))) else (some (.inr (.inl ())))
noncomputable def M.Jj (a0 : Xg) : Option Int :=
 bif decide ((a0.Zt.length : Int) > 8) then (some 7) else ((loopM (M.Qd a0) 0).bind fun y9 => Sum.elim (fun _ => bif decide ((a0.Zq.length : Int) > 8) then (some 7) else ((loopM (M.Qf a0) 0).bind fun y20 => Sum.elim (fun _ => bif decide ((a0.Zm.length : Int) > 8) then (some 7) else ((loopM (M.Qh a0) 0).bind fun y32 => Sum.elim (fun _ => some 0) (fun y34 => some y34) y32)) (fun y22 => some y22) y20)) (fun y11 => some y11) y9)
noncomputable def M.JC (a0 : Zf) : Option Int :=
 bif !a0.ZW.Va then (bif ((a0.ZW.XN != 0) || (a0.ZW.XO != 0)) || (decide ((wr .i64 ((wr .i64 ((wr .i64 ((wr .i64 ((a0.ZW.Zk.length : Int) + (a0.ZW.Zt.length : Int))) + (a0.ZW.Zq.length : Int))) + (a0.ZW.Zm.length : Int))) + (a0.ZW.Zs.length : Int))) > 0)) then (some 1) else (some 0)) else ((gc (!(a0.GA == 0)) (M.ZD a0.ZW.XN 1 255)).bind fun r1 => (gc (!((a0.GA == 0) || (!r1))) (M.ZD a0.ZW.XO 1 255)).bind fun r2 => bif ((a0.GA == 0) || (!r1)) || (!r2) then (some 1) else ((M.Vj a0).bind fun r3 => bif r3 != 0 then (some r3) else ((M.Jj a0.ZW).bind fun r4 => bif r4 != 0 then (some r4) else ((M.Yf a0 a0.ZW.Zs 5 0 16777215).bind fun r5 => some r5))))
noncomputable def M.Jt (r3 : Int) (r4 : Int) (r5 : Int) (r6 : Int) (r7 : Int) (r8 : Int) (r9 : Int) (r10 : Int) (r11 : Int) (r12 : Int) (p13 : Int) : Option (Int ⊕ (Unit ⊕ Int)) :=
 bif decide (p13 < (([r3,r4,r5,r6,r7,r8,r9,r10,r11,r12] : List Int).length : Int)) then (gd [decide (0 ≤ p13),decide (p13 < (([r3,r4,r5,r6,r7,r8,r9,r10,r11,r12] : List Int).length : Int))] (bif (([r3,r4,r5,r6,r7,r8,r9,r10,r11,r12] : List Int).getD p13.toNat default) != 0 then (gd [decide (0 ≤ p13),decide (p13 < (([r3,r4,r5,r6,r7,r8,r9,r10,r11,r12] : List Int).length : Int))] (some (.inr (.inr (([r3,r4,r5,r6,r7,r8,r9,r10,r11,r12] : List Int).getD p13.toNat default))))) else (some (.inl (wr .i64 (p13 + 1)))))) else (some (.inr (.inl ())))
noncomputable def M.Q5 (a0 : Zf) : Option Int :=
 (M.Jr a0.ZJ).bind fun r1 => bif !r1 then (some 3) else ((M.ZD a0.GA 0 65535).bind fun r2 => bif !r2 then (some 1) else ((M.Jw a0.Zc).bind fun r3 => (M.Q3 a0.Z1).bind fun r4 => (M.J1 a0).bind fun r5 => (M.Q4 a0.Xh).bind fun r6 => (M.QI a0).bind fun r7 => (M.Wm a0).bind fun r8 => (M.VW a0).bind fun r9 => (M.J4 a0).bind fun r10 => (M.Vp a0).bind fun r11 => (M.JC a0).bind fun r12 => (loopM (M.Jt r3 r4 r5 r6 r7 r8 r9 r10 r11 r12) 0).bind fun y15 => Sum.elim (fun _ => some 0) (fun y17 => some y17) y15))
noncomputable def M.Wc (a0 : ZG) (p1 : Int) (p4 : Int) : Option (Int ⊕ (Unit ⊕ Int)) :=
 bif decide (p4 < p1) then (gd [decide (0 ≤ p4),decide (p4 < (a0.Ze.length : Int)),decide (0 ≤ p1),decide (p1 < (a0.Ze.length : Int))] (bif strEq ((a0.Ze.getD p4.toNat default).ZJ) ((a0.Ze.getD p1.toNat default).ZJ) then (some (.inr (.inr 4))) else (some (.inl (wr .i64 (p4 + 1)))))) else (some (.inr (.inl ())))
noncomputable def M.VM (a0 : ZG) (p1 : Int) (p9 : Int) (p11 : Int) : Option (Int ⊕ (Unit ⊕ Int)) :=
 bif decide (p11 < p1) then ((gc (((((a0.Ze.getD p1.toNat default).Zc).getD p9.toNat default).ZK) != 0) (M.Je (a0.Ze.getD p11.toNat default) ((((a0.Ze.getD p1.toNat default).Zc).getD p9.toNat default).Zy))).bind fun r13 => gd [guardB (((((a0.Ze.getD p1.toNat default).Zc).getD p9.toNat default).ZK) != 0) (decide (0 ≤ p11)),guardB (((((a0.Ze.getD p1.toNat default).Zc).getD p9.toNat default).ZK) != 0) (decide (p11 < (a0.Ze.length : Int)))] (bif (((((a0.Ze.getD p1.toNat default).Zc).getD p9.toNat default).ZK) != 0) && (decide (r13 ≥ 0)) then (some (.inr (.inr 4))) else (some (.inl (wr .i64 (p11 + 1)))))) else (some (.inr (.inl ())))
noncomputable def M.VN (a0 : ZG) (p1 : Int) (p9 : Int) : Option (Int ⊕ (Unit ⊕ Int)) :=
 gd [decide (0 ≤ p1),decide (p1 < (a0.Ze.length : Int))] (bif decide (p9 < (((a0.Ze.getD p1.toNat default).Zc).length : Int)) then (gd [decide (0 ≤ p1),decide (p1 < (a0.Ze.length : Int)),decide (0 ≤ p9),decide (p9 < (((a0.Ze.getD p1.toNat default).Zc).length : Int))] ((loopM (M.VM a0 p1 p9) 0).bind fun y14 => Sum.elim (fun _ => some (.inl (wr .i64 (p9 + 1)))) (fun y16 => some (.inr (.inr y16))) y14)) else (some (.inr (.inl ()))))
noncomputable def M.VO (a0 : ZG) (p1 : Int) : Option (Int ⊕ (Unit ⊕ Int)) :=
 bif decide (p1 < (a0.Ze.length : Int)) then ((M.Q5 (a0.Ze.getD p1.toNat default)).bind fun r3 => gd [decide (0 ≤ p1),decide (p1 < (a0.Ze.length : Int))] (bif r3 != 0 then (some (.inr (.inr r3))) else ((loopM (M.Wc a0 p1) 0).bind fun y6 => Sum.elim (fun _ => (loopM (M.VN a0 p1) 0).bind fun y17 => Sum.elim (fun _ => some (.inl (wr .i64 (p1 + 1)))) (fun y19 => some (.inr (.inr y19))) y17) (fun y8 => some (.inr (.inr y8))) y6))) else (some (.inr (.inl ())))
noncomputable def M.Wn (a0 : ZG) : Option Int :=
 bif decide ((a0.Ze.length : Int) > 8) then (some 7) else ((loopM (M.VO a0) 0).bind fun y20 => Sum.elim (fun _ => some 0) (fun y22 => some y22) y20)
noncomputable def M.WM (a0 : ZS) (a1 : ZS) : Option Int :=
 bif (decide (a0.Zy < a1.Zy)) || ((a0.Zy == a1.Zy) && (decide (a0.ZK < a1.ZK))) then (some (-1)) else (bif ((a0.Zy == a1.Zy) && ((a0.ZK == a1.ZK) && true)) then (some 0) else (some 1))
noncomputable def M.UW (p16 : (List Zl) × Int) (p18 : (List Zl)) : Option (((List Zl) × Int) ⊕ (List Zl)) :=
 some (.inl (p18,wr .i64 (p16.2 + 1)))
noncomputable def M.Ub (a0 : ZG) (p14 : (List Zl) × Int) (p16 : (List Zl) × Int) (r19 : ZS) (p20 : Int) : Option (Int ⊕ Int) :=
 (gc (decide (p20 < (p16.1.length : Int))) (M.WM ((p16.1.getD (0 + p20.toNat) default).Zp) r19)).bind fun r22 => gd [guardB (decide (p20 < (p16.1.length : Int))) (decide (0 ≤ p20)),guardB (decide (p20 < (p16.1.length : Int))) (decide (p20 < (p16.1.length : Int))),guardB ((decide (p20 < (p16.1.length : Int))) && !(decide (r22 < 0))) (decide (0 ≤ p20)),guardB ((decide (p20 < (p16.1.length : Int))) && !(decide (r22 < 0))) (decide (p20 < (p16.1.length : Int))),guardB (((decide (p20 < (p16.1.length : Int))) && !(decide (r22 < 0))) && (((((p16.1.getD (0 + p20.toNat) default).Zp).Zy) == r19.Zy) && (((((p16.1.getD (0 + p20.toNat) default).Zp).ZK) == r19.ZK) && true))) (decide (0 ≤ p20)),guardB (((decide (p20 < (p16.1.length : Int))) && !(decide (r22 < 0))) && (((((p16.1.getD (0 + p20.toNat) default).Zp).Zy) == r19.Zy) && (((((p16.1.getD (0 + p20.toNat) default).Zp).ZK) == r19.ZK) && true))) (decide (p20 < (p16.1.length : Int)))] (bif (decide (p20 < (p16.1.length : Int))) && ((decide (r22 < 0)) || ((((((p16.1.getD (0 + p20.toNat) default).Zp).Zy) == r19.Zy) && (((((p16.1.getD (0 + p20.toNat) default).Zp).ZK) == r19.ZK) && true)) && (decide (((p16.1.getD (0 + p20.toNat) default).XF) < ((((a0.Ze.getD p14.2.toNat default).Zc).getD p16.2.toNat default).XF))))) then (some (.inl (wr .i64 (p20 + 1)))) else (some (.inr p20)))
noncomputable def M.UX (p14 : (List Zl) × Int) (p16 : (List Zl) × Int) (y23 : Int) (p24 : (List Zl)) : Option (((List Zl) × Int) ⊕ (List Zl)) :=
 gd [decide (0 ≤ y23),decide (y23 < (p24.length : Int)),decide ((((p24.getD (0 + y23.toNat) default).Xo).length + 1) * 16 ≤ 140737488355328),decide (0 ≤ y23),decide (y23 < (p24.length : Int))] (M.UW p16 (p24.set (0 + y23.toNat) (⟨(p24.getD (0 + y23.toNat) default).Zp,(p24.getD (0 + y23.toNat) default).XF,((p24.getD (0 + y23.toNat) default).Xo) ++ [(⟨p14.2,p16.2⟩ : V8)]⟩ : Zl)))
noncomputable def M.Uc (a0 : ZG) (p14 : (List Zl) × Int) (p16 : (List Zl) × Int) : Option (((List Zl) × Int) ⊕ (List Zl)) :=
 gd [decide (0 ≤ p14.2),decide (p14.2 < (a0.Ze.length : Int))] (bif decide (p16.2 < (((a0.Ze.getD p14.2.toNat default).Zc).length : Int)) then (gd [decide (0 ≤ p14.2),decide (p14.2 < (a0.Ze.length : Int)),decide (0 ≤ p16.2),decide (p16.2 < (((a0.Ze.getD p14.2.toNat default).Zc).length : Int))] (bif (((((a0.Ze.getD p14.2.toNat default).Zc).getD p16.2.toNat default).ZK) == 0) || ((((a0.Ze.getD p14.2.toNat default).Zc).getD p16.2.toNat default).Gu) then (M.UW p16 p16.1) else ((M.Jb ((((a0.Ze.getD p14.2.toNat default).Zc).getD p16.2.toNat default).Zy) ((((a0.Ze.getD p14.2.toNat default).Zc).getD p16.2.toNat default).ZK)).bind fun r19 => (loopM (M.Ub a0 p14 p16 r19) 0).bind fun y23 => gd [guardB (!(y23 == (p16.1.length : Int))) (decide (0 ≤ y23)),guardB (!(y23 == (p16.1.length : Int))) (decide (y23 < (p16.1.length : Int))),guardB (!((y23 == (p16.1.length : Int)) || (!(((((p16.1.getD (0 + y23.toNat) default).Zp).Zy) == r19.Zy) && (((((p16.1.getD (0 + y23.toNat) default).Zp).ZK) == r19.ZK) && true))))) (decide (0 ≤ y23)),guardB (!((y23 == (p16.1.length : Int)) || (!(((((p16.1.getD (0 + y23.toNat) default).Zp).Zy) == r19.Zy) && (((((p16.1.getD (0 + y23.toNat) default).Zp).ZK) == r19.ZK) && true))))) (decide (y23 < (p16.1.length : Int)))] (bif ((y23 == (p16.1.length : Int)) || (!(((((p16.1.getD (0 + y23.toNat) default).Zp).Zy) == r19.Zy) && (((((p16.1.getD (0 + y23.toNat) default).Zp).ZK) == r19.ZK) && true)))) || (((p16.1.getD (0 + y23.toNat) default).XF) != ((((a0.Ze.getD p14.2.toNat default).Zc).getD p16.2.toNat default).XF)) then (gd [decide (0 ≤ y23),decide (y23 ≤ (p16.1.length : Int)),decide (0 = 0) || decide (0 < (p16.1.length - y23.toNat)),decide ((0 + (p16.1.length - y23.toNat)) * 48 ≤ 140737488355328)] (gd [decide (0 ≤ y23),decide (y23 ≤ (p16.1.length : Int)),decide (((y23.toNat - 0) + 1) * 48 ≤ 140737488355328),decide ((((y23.toNat - 0) + 1) + (0 + (p16.1.length - y23.toNat))) * 48 ≤ 140737488355328)] (M.UX p14 p16 y23 (insL p16.1 y23.toNat (⟨r19,(((a0.Ze.getD p14.2.toNat default).Zc).getD p16.2.toNat default).XF,([] : List V8)⟩ : Zl))))) else (M.UX p14 p16 y23 p16.1))))) else (some (.inr p16.1)))
noncomputable def M.Ud (a0 : ZG) (p14 : (List Zl) × Int) : Option (((List Zl) × Int) ⊕ (List Zl)) :=
 bif decide (p14.2 < (a0.Ze.length : Int)) then ((loopM (M.Uc a0 p14) (p14.1,0)).bind fun y25 => some (.inl (y25,wr .i64 (p14.2 + 1)))) else (some (.inr p14.1))
noncomputable def M.UY (p28 : (List Int) × Int) (p30 : (List Int)) : Option (((List Int) × Int) ⊕ (List Int)) :=
 some (.inl (p30,wr .i64 (p28.2 + 1)))
noncomputable def M.Ue (y26 : (List Zl)) (p28 : (List Int) × Int) : Option (((List Int) × Int) ⊕ (List Int)) :=
 bif decide (p28.2 < (y26.length : Int)) then (gd [decide (0 ≤ p28.2),decide (p28.2 < (y26.length : Int))] (bif decide ((((y26.getD p28.2.toNat default).Xo).length : Int) > 1) then (gd [decide ((p28.1.length + 1) * 8 ≤ 140737488355328)] (M.UY p28 (p28.1 ++ [p28.2]))) else (M.UY p28 p28.1))) else (some (.inr p28.1))
noncomputable def M.GG (a0 : ZG) : Option (Yl × Int) :=
 (M.Wn a0).bind fun r1 => bif r1 != 0 then (some ((⟨([] : List Zl),([] : List Int)⟩ : Yl),r1)) else ((loopM (M.Ud a0) (([] : List Zl),0)).bind fun y26 => (loopM (M.Ue y26) (([] : List Int),0)).bind fun y31 => bif decide ((y31.length : Int) > 12) then (some ((⟨([] : List Zl),([] : List Int)⟩ : Yl),7)) else (some ((⟨y26,y31⟩ : Yl),0)))
noncomputable def M.Jq (a0 : List Int) (a1 : Int) (p1 : Int) : Option (Int ⊕ (Unit ⊕ Bool)) :=
 bif decide (p1 < (a0.length : Int)) then (gd [decide (0 ≤ p1),decide (p1 < (a0.length : Int)),guardB (!(decide ((a0.getD p1.toNat default) < 0))) (decide (0 ≤ p1)),guardB (!(decide ((a0.getD p1.toNat default) < 0))) (decide (p1 < (a0.length : Int))),guardB ((!((decide ((a0.getD p1.toNat default) < 0)) || (decide ((a0.getD p1.toNat default) ≥ a1)))) && (decide (p1 > 0))) (decide (0 ≤ p1)),guardB ((!((decide ((a0.getD p1.toNat default) < 0)) || (decide ((a0.getD p1.toNat default) ≥ a1)))) && (decide (p1 > 0))) (decide (p1 < (a0.length : Int))),guardB ((!((decide ((a0.getD p1.toNat default) < 0)) || (decide ((a0.getD p1.toNat default) ≥ a1)))) && (decide (p1 > 0))) (decide (0 ≤ (wr .i64 (p1 - 1)))),guardB ((!((decide ((a0.getD p1.toNat default) < 0)) || (decide ((a0.getD p1.toNat default) ≥ a1)))) && (decide (p1 > 0))) (decide ((wr .i64 (p1 - 1)) < (a0.length : Int)))] (bif ((decide ((a0.getD p1.toNat default) < 0)) || (decide ((a0.getD p1.toNat default) ≥ a1))) || ((decide (p1 > 0)) && (decide ((a0.getD p1.toNat default) ≤ (a0.getD (wr .i64 (p1 - 1)).toNat default)))) then (some (.inr (.inr false))) else (some (.inl (wr .i64 (p1 + 1)))))) else (some (.inr (.inl ())))
noncomputable def M.Vq (a0 : List Int) (a1 : Int) : Option Bool :=
 bif decide ((a0.length : Int) > 2) then (some false) else ((loopM (M.Jq a0 a1) 0).bind fun y3 => Sum.elim (fun _ => some true) (fun y5 => some y5) y3)
noncomputable def M.Rt (a0 : ZG) (a1 : List Int) : Option (WG × Int) :=
 (M.GG a0).bind fun r1 => bif r1.2 != 0 then (some ((⟨(⟨([] : List Zf)⟩ : ZG),(⟨([] : List Zl),([] : List Int)⟩ : Yl),([] : List Int)⟩ : WG),r1.2)) else ((M.Vq a1 (r1.1.Js.length : Int)).bind fun r2 => bif !r2 then (some ((⟨(⟨([] : List Zf)⟩ : ZG),(⟨([] : List Zl),([] : List Int)⟩ : Yl),([] : List Int)⟩ : WG),1)) else (gd [decide (0 = 0) || decide (0 < a1.length),decide ((0 + a1.length) * 8 ≤ 140737488355328)] (some ((⟨a0,r1.1,(a1 : List Int)⟩ : WG),0))))
noncomputable def M.WN (a0 : List Int) (a1 : List Int) (p1 : Int) : Option (Int ⊕ (Unit ⊕ Bool)) :=
 bif decide (p1 < (a0.length : Int)) then (gd [decide (0 ≤ p1),decide (p1 < (a0.length : Int)),decide (0 ≤ p1),decide (p1 < (a1.length : Int))] (bif (a0.getD p1.toNat default) != (a1.getD p1.toNat default) then (some (.inr (.inr false))) else (some (.inl (wr .i64 (p1 + 1)))))) else (some (.inr (.inl ())))
noncomputable def M.UZ (a0 : List Int) (a1 : List Int) : Option Bool :=
 bif (a0.length : Int) != (a1.length : Int) then (some false) else ((loopM (M.WN a0 a1) 0).bind fun y3 => Sum.elim (fun _ => some true) (fun y5 => some y5) y3)
noncomputable def M.WO (a0 : List V8) (a1 : List V8) (p1 : Int) : Option (Int ⊕ (Unit ⊕ Bool)) :=
 bif decide (p1 < (a0.length : Int)) then (gd [decide (0 ≤ p1),decide (p1 < (a0.length : Int)),decide (0 ≤ p1),decide (p1 < (a1.length : Int))] (bif !((((a0.getD p1.toNat default).KQ) == ((a1.getD p1.toNat default).KQ)) && ((((a0.getD p1.toNat default).Qx) == ((a1.getD p1.toNat default).Qx)) && true)) then (some (.inr (.inr false))) else (some (.inl (wr .i64 (p1 + 1)))))) else (some (.inr (.inl ())))
noncomputable def M.Gp (a0 : List V8) (a1 : List V8) : Option Bool :=
 bif (a0.length : Int) != (a1.length : Int) then (some false) else ((loopM (M.WO a0 a1) 0).bind fun y3 => Sum.elim (fun _ => some true) (fun y5 => some y5) y3)
noncomputable def M.VJ (a0 : Yl) (a1 : Yl) (p2 : Int) : Option (Int ⊕ (Unit ⊕ Bool)) :=
 bif decide (p2 < (a0.XQ.length : Int)) then (gd [decide (0 ≤ p2),decide (p2 < (a0.XQ.length : Int)),decide (0 ≤ p2),decide (p2 < (a1.XQ.length : Int))] ((gc (!((!(((((a0.XQ.getD p2.toNat default).Zp).Zy) == (((a1.XQ.getD p2.toNat default).Zp).Zy)) && (((((a0.XQ.getD p2.toNat default).Zp).ZK) == (((a1.XQ.getD p2.toNat default).Zp).ZK)) && true))) || (((a0.XQ.getD p2.toNat default).XF) != ((a1.XQ.getD p2.toNat default).XF)))) (M.Gp ((a0.XQ.getD p2.toNat default).Xo) ((a1.XQ.getD p2.toNat default).Xo))).bind fun r4 => bif ((!(((((a0.XQ.getD p2.toNat default).Zp).Zy) == (((a1.XQ.getD p2.toNat default).Zp).Zy)) && (((((a0.XQ.getD p2.toNat default).Zp).ZK) == (((a1.XQ.getD p2.toNat default).Zp).ZK)) && true))) || (((a0.XQ.getD p2.toNat default).XF) != ((a1.XQ.getD p2.toNat default).XF))) || (!r4) then (some (.inr (.inr false))) else (some (.inl (wr .i64 (p2 + 1)))))) else (some (.inr (.inl ())))
noncomputable def M.Uf (a0 : Yl) (a1 : Yl) : Option Bool :=
 (gc (!((a0.XQ.length : Int) != (a1.XQ.length : Int))) (M.UZ a0.Js a1.Js)).bind fun r1 => bif ((a0.XQ.length : Int) != (a1.XQ.length : Int)) || (!r1) then (some false) else ((loopM (M.VJ a0 a1) 0).bind fun y5 => Sum.elim (fun _ => some true) (fun y7 => some y7) y5)
noncomputable def M.Uu (a0 : Zf) (a1 : Zf) (p1 : Int) (p3 : Int) : Option (Int ⊕ (Unit ⊕ Bool)) :=
 bif decide (p3 < (((a0.Z1.getD p1.toNat default).Z0).length : Int)) then (gd [decide (0 ≤ p3),decide (p3 < (((a0.Z1.getD p1.toNat default).Z0).length : Int)),decide (0 ≤ p3),decide (p3 < (((a1.Z1.getD p1.toNat default).Z0).length : Int))] (bif !((((((a0.Z1.getD p1.toNat default).Z0).getD p3.toNat default).Kt) == ((((a1.Z1.getD p1.toNat default).Z0).getD p3.toNat default).Kt)) && ((((((((a0.Z1.getD p1.toNat default).Z0).getD p3.toNat default).Zp).Zy) == (((((a1.Z1.getD p1.toNat default).Z0).getD p3.toNat default).Zp).Zy)) && (((((((a0.Z1.getD p1.toNat default).Z0).getD p3.toNat default).Zp).ZK) == (((((a1.Z1.getD p1.toNat default).Z0).getD p3.toNat default).Zp).ZK)) && true)) && ((((((a0.Z1.getD p1.toNat default).Z0).getD p3.toNat default).Zbm) == ((((a1.Z1.getD p1.toNat default).Z0).getD p3.toNat default).Zbm)) && ((((((a0.Z1.getD p1.toNat default).Z0).getD p3.toNat default).Zbn) == ((((a1.Z1.getD p1.toNat default).Z0).getD p3.toNat default).Zbn)) && true)))) then (some (.inr (.inr false))) else (some (.inl (wr .i64 (p3 + 1)))))) else (some (.inr (.inl ())))
noncomputable def M.Uv (a0 : Zf) (a1 : Zf) (p1 : Int) : Option (Int ⊕ (Unit ⊕ Bool)) :=
 bif decide (p1 < (a0.Z1.length : Int)) then (gd [decide (0 ≤ p1),decide (p1 < (a0.Z1.length : Int)),decide (0 ≤ p1),decide (p1 < (a1.Z1.length : Int))] (bif (!strEq ((a0.Z1.getD p1.toNat default).ZJ) ((a1.Z1.getD p1.toNat default).ZJ)) || ((((a0.Z1.getD p1.toNat default).Z0).length : Int) != (((a1.Z1.getD p1.toNat default).Z0).length : Int)) then (some (.inr (.inr false))) else ((loopM (M.Uu a0 a1 p1) 0).bind fun y5 => Sum.elim (fun _ => some (.inl (wr .i64 (p1 + 1)))) (fun y7 => some (.inr (.inr y7))) y5))) else (some (.inr (.inl ())))
noncomputable def M.Uw (a0 : Zf) (a1 : Zf) (p11 : Int) (p13 : Int) : Option (Int ⊕ (Unit ⊕ Bool)) :=
 bif decide (p13 < (((a0.ZR.getD p11.toNat default).Z4).length : Int)) then (gd [decide (0 ≤ p13),decide (p13 < (((a0.ZR.getD p11.toNat default).Z4).length : Int)),decide (0 ≤ p13),decide (p13 < (((a1.ZR.getD p11.toNat default).Z4).length : Int))] (bif !((((((a0.ZR.getD p11.toNat default).Z4).getD p13.toNat default).Kt) == ((((a1.ZR.getD p11.toNat default).Z4).getD p13.toNat default).Kt)) && (strEq ((((a0.ZR.getD p11.toNat default).Z4).getD p13.toNat default).QE) ((((a1.ZR.getD p11.toNat default).Z4).getD p13.toNat default).QE) && ((((((a0.ZR.getD p11.toNat default).Z4).getD p13.toNat default).UK) == ((((a1.ZR.getD p11.toNat default).Z4).getD p13.toNat default).UK)) && ((((((a0.ZR.getD p11.toNat default).Z4).getD p13.toNat default).WB) == ((((a1.ZR.getD p11.toNat default).Z4).getD p13.toNat default).WB)) && ((((((a0.ZR.getD p11.toNat default).Z4).getD p13.toNat default).GN) == ((((a1.ZR.getD p11.toNat default).Z4).getD p13.toNat default).GN)) && ((((((a0.ZR.getD p11.toNat default).Z4).getD p13.toNat default).UU) == ((((a1.ZR.getD p11.toNat default).Z4).getD p13.toNat default).UU)) && ((((((a0.ZR.getD p11.toNat default).Z4).getD p13.toNat default).UV) == ((((a1.ZR.getD p11.toNat default).Z4).getD p13.toNat default).UV)) && true))))))) then (some (.inr (.inr false))) else (some (.inl (wr .i64 (p13 + 1)))))) else (some (.inr (.inl ())))
noncomputable def M.Ux (a0 : Zf) (a1 : Zf) (p11 : Int) : Option (Int ⊕ (Unit ⊕ Bool)) :=
 bif decide (p11 < (a0.ZR.length : Int)) then (gd [decide (0 ≤ p11),decide (p11 < (a0.ZR.length : Int)),decide (0 ≤ p11),decide (p11 < (a1.ZR.length : Int))] (bif (!strEq ((a0.ZR.getD p11.toNat default).ZJ) ((a1.ZR.getD p11.toNat default).ZJ)) || ((((a0.ZR.getD p11.toNat default).Z4).length : Int) != (((a1.ZR.getD p11.toNat default).Z4).length : Int)) then (some (.inr (.inr false))) else ((loopM (M.Uw a0 a1 p11) 0).bind fun y15 => Sum.elim (fun _ => some (.inl (wr .i64 (p11 + 1)))) (fun y17 => some (.inr (.inr y17))) y15))) else (some (.inr (.inl ())))
noncomputable def M.Uy (a0 : Zf) (a1 : Zf) (p21 : Int) (p23 : Int) : Option (Int ⊕ (Unit ⊕ Bool)) :=
 bif decide (p23 < (((a0.Xh.getD p21.toNat default).Z0).length : Int)) then (gd [decide (0 ≤ p23),decide (p23 < (((a0.Xh.getD p21.toNat default).Z0).length : Int)),decide (0 ≤ p23),decide (p23 < (((a1.Xh.getD p21.toNat default).Z0).length : Int))] (bif !((((((a0.Xh.getD p21.toNat default).Z0).getD p23.toNat default).Kt) == ((((a1.Xh.getD p21.toNat default).Z0).getD p23.toNat default).Kt)) && ((((((a0.Xh.getD p21.toNat default).Z0).getD p23.toNat default).Yc) == ((((a1.Xh.getD p21.toNat default).Z0).getD p23.toNat default).Yc)) && ((((((((a0.Xh.getD p21.toNat default).Z0).getD p23.toNat default).KX).Zy) == (((((a1.Xh.getD p21.toNat default).Z0).getD p23.toNat default).KX).Zy)) && (((((((a0.Xh.getD p21.toNat default).Z0).getD p23.toNat default).KX).U7) == (((((a1.Xh.getD p21.toNat default).Z0).getD p23.toNat default).KX).U7)) && true)) && ((((((((a0.Xh.getD p21.toNat default).Z0).getD p23.toNat default).KY).Zy) == (((((a1.Xh.getD p21.toNat default).Z0).getD p23.toNat default).KY).Zy)) && (((((((a0.Xh.getD p21.toNat default).Z0).getD p23.toNat default).KY).U7) == (((((a1.Xh.getD p21.toNat default).Z0).getD p23.toNat default).KY).U7)) && true)) && ((((((((a0.Xh.getD p21.toNat default).Z0).getD p23.toNat default).JR).Gv) == (((((a1.Xh.getD p21.toNat default).Z0).getD p23.toNat default).JR).Gv)) && (((((((a0.Xh.getD p21.toNat default).Z0).getD p23.toNat default).JR).G4) == (((((a1.Xh.getD p21.toNat default).Z0).getD p23.toNat default).JR).G4)) && true)) && ((((((((a0.Xh.getD p21.toNat default).Z0).getD p23.toNat default).JS).Gv) == (((((a1.Xh.getD p21.toNat default).Z0).getD p23.toNat default).JS).Gv)) && (((((((a0.Xh.getD p21.toNat default).Z0).getD p23.toNat default).JS).G4) == (((((a1.Xh.getD p21.toNat default).Z0).getD p23.toNat default).JS).G4)) && true)) && true)))))) then (some (.inr (.inr false))) else (some (.inl (wr .i64 (p23 + 1)))))) else (some (.inr (.inl ())))
noncomputable def M.Uz (a0 : Zf) (a1 : Zf) (p21 : Int) : Option (Int ⊕ (Unit ⊕ Bool)) :=
 bif decide (p21 < (a0.Xh.length : Int)) then (gd [decide (0 ≤ p21),decide (p21 < (a0.Xh.length : Int)),decide (0 ≤ p21),decide (p21 < (a1.Xh.length : Int))] (bif (!strEq ((a0.Xh.getD p21.toNat default).ZJ) ((a1.Xh.getD p21.toNat default).ZJ)) || ((((a0.Xh.getD p21.toNat default).Z0).length : Int) != (((a1.Xh.getD p21.toNat default).Z0).length : Int)) then (some (.inr (.inr false))) else ((loopM (M.Uy a0 a1 p21) 0).bind fun y25 => Sum.elim (fun _ => some (.inl (wr .i64 (p21 + 1)))) (fun y27 => some (.inr (.inr y27))) y25))) else (some (.inr (.inl ())))
noncomputable def M.GH (a0 : Zf) (a1 : Zf) : Option Bool :=
 bif (((a0.Z1.length : Int) != (a1.Z1.length : Int)) || ((a0.ZR.length : Int) != (a1.ZR.length : Int))) || ((a0.Xh.length : Int) != (a1.Xh.length : Int)) then (some false) else ((loopM (M.Uv a0 a1) 0).bind fun y8 => Sum.elim (fun _ => (loopM (M.Ux a0 a1) 0).bind fun y18 => Sum.elim (fun _ => (loopM (M.Uz a0 a1) 0).bind fun y28 => Sum.elim (fun _ => some true) (fun y30 => some y30) y28) (fun y20 => some y20) y18) (fun y10 => some y10) y8)
noncomputable def M.Ug (a0 : List Yi) (a1 : List Yi) (p1 : Int) : Option (Int ⊕ (Unit ⊕ Bool)) :=
 bif decide (p1 < (a0.length : Int)) then (gd [decide (0 ≤ p1),decide (p1 < (a0.length : Int)),decide (0 ≤ p1),decide (p1 < (a1.length : Int))] (bif !((((a0.getD p1.toNat default).WT) == ((a1.getD p1.toNat default).WT)) && ((((a0.getD p1.toNat default).Kv) == ((a1.getD p1.toNat default).Kv)) && ((((a0.getD p1.toNat default).UK) == ((a1.getD p1.toNat default).UK)) && (strEq ((a0.getD p1.toNat default).Rs) ((a1.getD p1.toNat default).Rs) && ((((a0.getD p1.toNat default).Ke) == ((a1.getD p1.toNat default).Ke)) && true))))) then (some (.inr (.inr false))) else (some (.inl (wr .i64 (p1 + 1)))))) else (some (.inr (.inl ())))
noncomputable def M.WW (a0 : List Yi) (a1 : List Yi) : Option Bool :=
 bif (a0.length : Int) != (a1.length : Int) then (some false) else ((loopM (M.Ug a0 a1) 0).bind fun y3 => Sum.elim (fun _ => some true) (fun y5 => some y5) y3)
noncomputable def M.Wt (a0 : Zf) (a1 : Zf) (p2 : Int) : Option (Int ⊕ (Unit ⊕ Bool)) :=
 bif decide (p2 < (a0.X0.ZE.length : Int)) then (gd [decide (0 ≤ p2),decide (p2 < (a0.X0.ZE.length : Int)),decide (0 ≤ p2),decide (p2 < (a1.X0.ZE.length : Int))] (bif !((((a0.X0.ZE.getD p2.toNat default).JW) == ((a1.X0.ZE.getD p2.toNat default).JW)) && ((((((a0.X0.ZE.getD p2.toNat default).Zp).Zy) == (((a1.X0.ZE.getD p2.toNat default).Zp).Zy)) && (((((a0.X0.ZE.getD p2.toNat default).Zp).ZK) == (((a1.X0.ZE.getD p2.toNat default).Zp).ZK)) && true)) && true)) then (some (.inr (.inr false))) else (some (.inl (wr .i64 (p2 + 1)))))) else (some (.inr (.inl ())))
noncomputable def M.Wu (a0 : Zf) (a1 : Zf) (p9 : Int) : Option (Int ⊕ (Unit ⊕ Bool)) :=
 bif decide (p9 < (a0.ZW.Zk.length : Int)) then (gd [decide (0 ≤ p9),decide (p9 < (a0.ZW.Zk.length : Int)),decide (0 ≤ p9),decide (p9 < (a1.ZW.Zk.length : Int))] (bif !((((a0.ZW.Zk.getD p9.toNat default).Zy) == ((a1.ZW.Zk.getD p9.toNat default).Zy)) && ((((a0.ZW.Zk.getD p9.toNat default).GA) == ((a1.ZW.Zk.getD p9.toNat default).GA)) && (strEq ((a0.ZW.Zk.getD p9.toNat default).Vr) ((a1.ZW.Zk.getD p9.toNat default).Vr) && (strEq ((a0.ZW.Zk.getD p9.toNat default).YD) ((a1.ZW.Zk.getD p9.toNat default).YD) && true)))) then (some (.inr (.inr false))) else (some (.inl (wr .i64 (p9 + 1)))))) else (some (.inr (.inl ())))
noncomputable def M.Wv (a0 : Zf) (a1 : Zf) (p14 : Int) : Option (Int ⊕ (Unit ⊕ Bool)) :=
 bif decide (p14 < (a0.ZW.Zt.length : Int)) then (gd [decide (0 ≤ p14),decide (p14 < (a0.ZW.Zt.length : Int)),decide (0 ≤ p14),decide (p14 < (a1.ZW.Zt.length : Int))] (bif !((((a0.ZW.Zt.getD p14.toNat default).Zy) == ((a1.ZW.Zt.getD p14.toNat default).Zy)) && ((((a0.ZW.Zt.getD p14.toNat default).ZK) == ((a1.ZW.Zt.getD p14.toNat default).ZK)) && true)) then (some (.inr (.inr false))) else (some (.inl (wr .i64 (p14 + 1)))))) else (some (.inr (.inl ())))
noncomputable def M.Ww (a0 : Zf) (a1 : Zf) (p19 : Int) : Option (Int ⊕ (Unit ⊕ Bool)) :=
 bif decide (p19 < (a0.ZW.Zq.length : Int)) then (gd [decide (0 ≤ p19),decide (p19 < (a0.ZW.Zq.length : Int)),decide (0 ≤ p19),decide (p19 < (a1.ZW.Zq.length : Int))] (bif !((((((a0.ZW.Zq.getD p19.toNat default).Zp).Zy) == (((a1.ZW.Zq.getD p19.toNat default).Zp).Zy)) && (((((a0.ZW.Zq.getD p19.toNat default).Zp).ZK) == (((a1.ZW.Zq.getD p19.toNat default).Zp).ZK)) && true)) && ((((a0.ZW.Zq.getD p19.toNat default).Zmr) == ((a1.ZW.Zq.getD p19.toNat default).Zmr)) && true)) then (some (.inr (.inr false))) else (some (.inl (wr .i64 (p19 + 1)))))) else (some (.inr (.inl ())))
noncomputable def M.Wx (a0 : Zf) (a1 : Zf) (p24 : Int) : Option (Int ⊕ (Unit ⊕ Bool)) :=
 bif decide (p24 < (a0.ZW.Zm.length : Int)) then (gd [decide (0 ≤ p24),decide (p24 < (a0.ZW.Zm.length : Int)),decide (0 ≤ p24),decide (p24 < (a1.ZW.Zm.length : Int))] (bif !((((((a0.ZW.Zm.getD p24.toNat default).Zp).Zy) == (((a1.ZW.Zm.getD p24.toNat default).Zp).Zy)) && (((((a0.ZW.Zm.getD p24.toNat default).Zp).ZK) == (((a1.ZW.Zm.getD p24.toNat default).Zp).ZK)) && true)) && ((((((a0.ZW.Zm.getD p24.toNat default).fIf).Zy) == (((a1.ZW.Zm.getD p24.toNat default).fIf).Zy)) && (((((a0.ZW.Zm.getD p24.toNat default).fIf).ZK) == (((a1.ZW.Zm.getD p24.toNat default).fIf).ZK)) && true)) && ((((a0.ZW.Zm.getD p24.toNat default).Zib) == ((a1.ZW.Zm.getD p24.toNat default).Zib)) && true))) then (some (.inr (.inr false))) else (some (.inl (wr .i64 (p24 + 1)))))) else (some (.inr (.inl ())))
noncomputable def M.Uh (a0 : Zf) (a1 : Zf) : Option Bool :=
 (gc (!(((!(a0.X0.Va == a1.X0.Va)) || (a0.X0.Xd != a1.X0.Xd)) || ((a0.X0.ZE.length : Int) != (a1.X0.ZE.length : Int)))) (M.WW a0.X0.Zs a1.X0.Zs)).bind fun r1 => bif (((!(a0.X0.Va == a1.X0.Va)) || (a0.X0.Xd != a1.X0.Xd)) || ((a0.X0.ZE.length : Int) != (a1.X0.ZE.length : Int))) || (!r1) then (some false) else ((loopM (M.Wt a0 a1) 0).bind fun y4 => Sum.elim (fun _ => (gc (!((((!(a0.Ya.Va == a1.Ya.Va)) || (a0.Ya.Xd != a1.Ya.Xd)) || (!strEq a0.Ya.Vr a1.Ya.Vr)) || (!strEq a0.Ya.YD a1.Ya.YD))) (M.WW a0.Ya.Zs a1.Ya.Zs)).bind fun r7 => bif ((((!(a0.Ya.Va == a1.Ya.Va)) || (a0.Ya.Xd != a1.Ya.Xd)) || (!strEq a0.Ya.Vr a1.Ya.Vr)) || (!strEq a0.Ya.YD a1.Ya.YD)) || (!r7) then (some false) else ((gc (!(((((((!(a0.ZW.Va == a1.ZW.Va)) || (a0.ZW.XN != a1.ZW.XN)) || (a0.ZW.XO != a1.ZW.XO)) || ((a0.ZW.Zk.length : Int) != (a1.ZW.Zk.length : Int))) || ((a0.ZW.Zt.length : Int) != (a1.ZW.Zt.length : Int))) || ((a0.ZW.Zq.length : Int) != (a1.ZW.Zq.length : Int))) || ((a0.ZW.Zm.length : Int) != (a1.ZW.Zm.length : Int)))) (M.WW a0.ZW.Zs a1.ZW.Zs)).bind fun r8 => bif (((((((!(a0.ZW.Va == a1.ZW.Va)) || (a0.ZW.XN != a1.ZW.XN)) || (a0.ZW.XO != a1.ZW.XO)) || ((a0.ZW.Zk.length : Int) != (a1.ZW.Zk.length : Int))) || ((a0.ZW.Zt.length : Int) != (a1.ZW.Zt.length : Int))) || ((a0.ZW.Zq.length : Int) != (a1.ZW.Zq.length : Int))) || ((a0.ZW.Zm.length : Int) != (a1.ZW.Zm.length : Int))) || (!r8) then (some false) else ((loopM (M.Wu a0 a1) 0).bind fun y11 => Sum.elim (fun _ => (loopM (M.Wv a0 a1) 0).bind fun y16 => Sum.elim (fun _ => (loopM (M.Ww a0 a1) 0).bind fun y21 => Sum.elim (fun _ => (loopM (M.Wx a0 a1) 0).bind fun y26 => Sum.elim (fun _ => some true) (fun y28 => some y28) y26) (fun y23 => some y23) y21) (fun y18 => some y18) y16) (fun y13 => some y13) y11))) (fun y6 => some y6) y4)
noncomputable def M.Kx (a0 : Zf) (a1 : Zf) (p1 : Int) : Option (Int ⊕ (Unit ⊕ Bool)) :=
 bif decide (p1 < (a0.Zc.length : Int)) then (gd [decide (0 ≤ p1),decide (p1 < (a0.Zc.length : Int)),decide (0 ≤ p1),decide (p1 < (a1.Zc.length : Int))] (bif !(strEq ((a0.Zc.getD p1.toNat default).ZJ) ((a1.Zc.getD p1.toNat default).ZJ) && ((((a0.Zc.getD p1.toNat default).Zy) == ((a1.Zc.getD p1.toNat default).Zy)) && ((((a0.Zc.getD p1.toNat default).ZK) == ((a1.Zc.getD p1.toNat default).ZK)) && ((((a0.Zc.getD p1.toNat default).XF) == ((a1.Zc.getD p1.toNat default).XF)) && ((((a0.Zc.getD p1.toNat default).Gu) == ((a1.Zc.getD p1.toNat default).Gu)) && ((((a0.Zc.getD p1.toNat default).X0) == ((a1.Zc.getD p1.toNat default).X0)) && ((((a0.Zc.getD p1.toNat default).JW) == ((a1.Zc.getD p1.toNat default).JW)) && ((((a0.Zc.getD p1.toNat default).K5) == ((a1.Zc.getD p1.toNat default).K5)) && ((((a0.Zc.getD p1.toNat default).Ya) == ((a1.Zc.getD p1.toNat default).Ya)) && (strEq ((a0.Zc.getD p1.toNat default).Vr) ((a1.Zc.getD p1.toNat default).Vr) && (strEq ((a0.Zc.getD p1.toNat default).YD) ((a1.Zc.getD p1.toNat default).YD) && ((((a0.Zc.getD p1.toNat default).Rr) == ((a1.Zc.getD p1.toNat default).Rr)) && true)))))))))))) then (some (.inr (.inr false))) else (some (.inl (wr .i64 (p1 + 1)))))) else (some (.inr (.inl ())))
noncomputable def M.Ky (a0 : Zf) (a1 : Zf) (p6 : Int) : Option (Int ⊕ (Unit ⊕ Bool)) :=
 bif decide (p6 < (a0.Xf.length : Int)) then (gd [decide (0 ≤ p6),decide (p6 < (a0.Xf.length : Int)),decide (0 ≤ p6),decide (p6 < (a1.Xf.length : Int))] (bif !((((a0.Xf.getD p6.toNat default).JX) == ((a1.Xf.getD p6.toNat default).JX)) && ((((a0.Xf.getD p6.toNat default).Qj) == ((a1.Xf.getD p6.toNat default).Qj)) && ((((a0.Xf.getD p6.toNat default).Yv) == ((a1.Xf.getD p6.toNat default).Yv)) && ((((a0.Xf.getD p6.toNat default).Yc) == ((a1.Xf.getD p6.toNat default).Yc)) && ((((a0.Xf.getD p6.toNat default).Qp) == ((a1.Xf.getD p6.toNat default).Qp)) && ((((a0.Xf.getD p6.toNat default).YO) == ((a1.Xf.getD p6.toNat default).YO)) && (strEq ((a0.Xf.getD p6.toNat default).QE) ((a1.Xf.getD p6.toNat default).QE) && ((((a0.Xf.getD p6.toNat default).Gv) == ((a1.Xf.getD p6.toNat default).Gv)) && ((((a0.Xf.getD p6.toNat default).G4) == ((a1.Xf.getD p6.toNat default).G4)) && true))))))))) then (some (.inr (.inr false))) else (some (.inl (wr .i64 (p6 + 1)))))) else (some (.inr (.inl ())))
noncomputable def M.Kz (a0 : Zf) (a1 : Zf) (p11 : Int) : Option (Int ⊕ (Unit ⊕ Bool)) :=
 bif decide (p11 < (a0.Zr.length : Int)) then (gd [decide (0 ≤ p11),decide (p11 < (a0.Zr.length : Int)),decide (0 ≤ p11),decide (p11 < (a1.Zr.length : Int))] (bif !((((((a0.Zr.getD p11.toNat default).Zp).Zy) == (((a1.Zr.getD p11.toNat default).Zp).Zy)) && (((((a0.Zr.getD p11.toNat default).Zp).ZK) == (((a1.Zr.getD p11.toNat default).Zp).ZK)) && true)) && ((((a0.Zr.getD p11.toNat default).Ve) == ((a1.Zr.getD p11.toNat default).Ve)) && (strEq ((a0.Zr.getD p11.toNat default).Qx) ((a1.Zr.getD p11.toNat default).Qx) && ((((a0.Zr.getD p11.toNat default).Vf) == ((a1.Zr.getD p11.toNat default).Vf)) && ((((a0.Zr.getD p11.toNat default).Xd) == ((a1.Zr.getD p11.toNat default).Xd)) && ((((a0.Zr.getD p11.toNat default).UK) == ((a1.Zr.getD p11.toNat default).UK)) && true)))))) then (some (.inr (.inr false))) else (some (.inl (wr .i64 (p11 + 1)))))) else (some (.inr (.inl ())))
noncomputable def M.Rk (a0 : Zf) (a1 : Zf) : Option Bool :=
 bif ((((!strEq a0.ZJ a1.ZJ) || (a0.GA != a1.GA)) || ((a0.Zc.length : Int) != (a1.Zc.length : Int))) || ((a0.Xf.length : Int) != (a1.Xf.length : Int))) || ((a0.Zr.length : Int) != (a1.Zr.length : Int)) then (some false) else ((loopM (M.Kx a0 a1) 0).bind fun y3 => Sum.elim (fun _ => (loopM (M.Ky a0 a1) 0).bind fun y8 => Sum.elim (fun _ => (loopM (M.Kz a0 a1) 0).bind fun y13 => Sum.elim (fun _ => (M.GH a0 a1).bind fun r16 => (gc r16 (M.Uh a0 a1)).bind fun r17 => some (r16 && r17)) (fun y15 => some y15) y13) (fun y10 => some y10) y8) (fun y5 => some y5) y3)
noncomputable def M.W0 (a0 : ZG) (a1 : ZG) (p1 : Int) : Option (Int ⊕ (Unit ⊕ Bool)) :=
 bif decide (p1 < (a0.Ze.length : Int)) then ((M.Rk (a0.Ze.getD p1.toNat default) (a1.Ze.getD p1.toNat default)).bind fun r3 => gd [decide (0 ≤ p1),decide (p1 < (a0.Ze.length : Int)),decide (0 ≤ p1),decide (p1 < (a1.Ze.length : Int))] (bif !r3 then (some (.inr (.inr false))) else (some (.inl (wr .i64 (p1 + 1)))))) else (some (.inr (.inl ())))
noncomputable def M.W7 (a0 : ZG) (a1 : ZG) : Option Bool :=
 bif (a0.Ze.length : Int) != (a1.Ze.length : Int) then (some false) else ((loopM (M.W0 a0 a1) 0).bind fun y4 => Sum.elim (fun _ => some true) (fun y6 => some y6) y4)
noncomputable def M.Ui  : Option ZG :=
 some (⟨([(⟨(⟨#[97]⟩ : ByteArray),0,([(⟨(⟨#[101,48]⟩ : ByteArray),167772161,24,0,false,false,0,0,false,(⟨#[]⟩ : ByteArray),(⟨#[]⟩ : ByteArray),0⟩ : ZB)] : List ZB),([] : List ZF),([] : List Xy),([] : List V2),([] : List Y1),([] : List Yk),(⟨false,0,([] : List We),([] : List Yi)⟩ : WC),(⟨false,0,(⟨#[]⟩ : ByteArray),(⟨#[]⟩ : ByteArray),([] : List Yi)⟩ : QF),(⟨false,0,0,([] : List VH),([] : List ZS),([] : List Wf),([] : List Wg),([] : List Yi)⟩ : Xg)⟩ : Zf),(⟨(⟨#[98]⟩ : ByteArray),0,([(⟨(⟨#[101,48]⟩ : ByteArray),167772162,24,0,false,false,0,0,false,(⟨#[]⟩ : ByteArray),(⟨#[]⟩ : ByteArray),0⟩ : ZB),(⟨(⟨#[101,49]⟩ : ByteArray),167772418,24,0,false,false,0,0,false,(⟨#[]⟩ : ByteArray),(⟨#[]⟩ : ByteArray),0⟩ : ZB)] : List ZB),([] : List ZF),([] : List Xy),([] : List V2),([] : List Y1),([] : List Yk),(⟨false,0,([] : List We),([] : List Yi)⟩ : WC),(⟨false,0,(⟨#[]⟩ : ByteArray),(⟨#[]⟩ : ByteArray),([] : List Yi)⟩ : QF),(⟨false,0,0,([] : List VH),([] : List ZS),([] : List Wf),([] : List Wg),([] : List Yi)⟩ : Xg)⟩ : Zf)] : List Zf)⟩ : ZG)
noncomputable def M.Yt (a0 : List V8) (a1 : V8) (p1 : Int) : Option (Int ⊕ (Unit ⊕ Int)) :=
 bif decide (p1 < (a0.length : Int)) then (gd [decide (0 ≤ p1),decide (p1 < (a0.length : Int))] (bif ((a1.KQ == ((a0.getD p1.toNat default).KQ)) && ((a1.Qx == ((a0.getD p1.toNat default).Qx)) && true)) then (some (.inr (.inr p1))) else (some (.inl (wr .i64 (p1 + 1)))))) else (some (.inr (.inl ())))
noncomputable def M.Yu (a0 : List V8) (a1 : V8) : Option Int :=
 (loopM (M.Yt a0 a1) 0).bind fun y3 => Sum.elim (fun _ => some (-1)) (fun y5 => some y5) y3
noncomputable def M.Ye (a0 : List V8) (a1 : V8) : Option Bool :=
 (M.Yu a0 a1).bind fun r1 => some (decide (r1 ≥ 0))
noncomputable def M.WR (a0 : WG) (a1 : Int) (a2 : Int) (p1 : Int) : Option (Int ⊕ (Unit ⊕ Int)) :=
 bif decide (p1 < (a0.Ws.XQ.length : Int)) then (gd [decide (0 ≤ p1),decide (p1 < (a0.Ws.XQ.length : Int))] ((M.Ye ((a0.Ws.XQ.getD p1.toNat default).Xo) (⟨a1,a2⟩ : V8)).bind fun r3 => bif r3 then (some (.inr (.inr p1))) else (some (.inl (wr .i64 (p1 + 1)))))) else (some (.inr (.inl ())))
noncomputable def M.WS (a0 : WG) (a1 : Int) (a2 : Int) : Option Int :=
 (loopM (M.WR a0 a1 a2) 0).bind fun y4 => Sum.elim (fun _ => none) (fun y6 => some y6) y4
noncomputable def M.QV (a0 : List Int) (a1 : Int) (p1 : Int) : Option (Int ⊕ (Unit ⊕ Int)) :=
 bif decide (p1 < (a0.length : Int)) then (gd [decide (0 ≤ p1),decide (p1 < (a0.length : Int))] (bif a1 == (a0.getD p1.toNat default) then (some (.inr (.inr p1))) else (some (.inl (wr .i64 (p1 + 1)))))) else (some (.inr (.inl ())))
noncomputable def M.Qi (a0 : List Int) (a1 : Int) : Option Int :=
 (loopM (M.QV a0 a1) 0).bind fun y3 => Sum.elim (fun _ => some (-1)) (fun y5 => some y5) y3
noncomputable def M.GP (a0 : WG) (a1 : Int) (a2 : Int) : Option Int :=
 (M.WS a0 a1 a2).bind fun r1 => bif decide (r1 < 0) then none else ((M.Qi a0.Ws.Js r1).bind fun r2 => some r2)
noncomputable def M.Ql (a0 : List Int) (a1 : Int) : Option Bool :=
 (M.Qi a0 a1).bind fun r1 => some (decide (r1 ≥ 0))
noncomputable def M.GQ (a0 : WG) (a1 : Int) (a2 : Int) : Option Bool :=
 (M.WS a0 a1 a2).bind fun r1 => bif decide (r1 < 0) then none else ((M.GP a0 a1 a2).bind fun r2 => (gc (!(decide (r2 < 0))) (M.Ql a0.Gu r2)).bind fun r3 => some ((decide (r2 < 0)) || (!r3)))
noncomputable def M.Ga  : Option Bool :=
 (M.Ui).bind fun r1 => (M.WU r1 ([] : List Int)).bind fun r2 => (M.Ui).bind fun r3 => (M.WU r3 ([0] : List Int)).bind fun r4 => (gc ((((r2.2 == 0) && (r4.2 == 0)) && ((r2.1.Ws.XQ.length : Int) == 2)) && ((r2.1.Ws.Js.length : Int) == 1)) (M.GQ r2.1 0 0)).bind fun r5 => (gc (((((r2.2 == 0) && (r4.2 == 0)) && ((r2.1.Ws.XQ.length : Int) == 2)) && ((r2.1.Ws.Js.length : Int) == 1)) && r5) (M.GQ r4.1 0 0)).bind fun r6 => (gc ((((((r2.2 == 0) && (r4.2 == 0)) && ((r2.1.Ws.XQ.length : Int) == 2)) && ((r2.1.Ws.Js.length : Int) == 1)) && r5) && (!r6)) (M.GQ r4.1 1 1)).bind fun r7 => some (((((((r2.2 == 0) && (r4.2 == 0)) && ((r2.1.Ws.XQ.length : Int) == 2)) && ((r2.1.Ws.Js.length : Int) == 1)) && r5) && (!r6)) && r7)
noncomputable def M.G5 (a0 : ZG) (a1 : List Int) : Option Bool :=
 (M.VD a0).bind fun r1 => bif (!r1) || (decide ((a1.length : Int) > 10)) then (some true) else ((M.WU a0 a1).bind fun r2 => (M.Rt a0 a1).bind fun r3 => (gc (r2.2 == r3.2) (M.Uf r2.1.Ws r3.1.Ws)).bind fun r4 => (gc ((r2.2 == r3.2) && r4) (M.UZ r2.1.Gu r3.1.Gu)).bind fun r5 => (gc (((r2.2 == r3.2) && r4) && r5) (M.W7 r2.1.Zfs r3.1.Zfs)).bind fun r6 => (gc ((((r2.2 == r3.2) && r4) && r5) && r6) M.Ga).bind fun r7 => some (((((r2.2 == r3.2) && r4) && r5) && r6) && r7))
end Nv
