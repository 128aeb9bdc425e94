/- Data that can come in: the integers fit their kinds, the lengths an int. -/
import Derived.Test.YtaienbkgekjdnaaGreatNvD1
import Derived.Test.YtaienbkgekjdnaaGreatNvLibB
namespace Nv
open Go
def ZaW (x : ZB) : Prop := x.ZJ.size ≤ maxLen ∧ (Lit.int .u32 x.Zy).wf = true ∧ (Lit.int .i64 x.ZK).wf = true ∧ (Lit.int .i64 x.XF).wf = true ∧ True ∧ True ∧ (Lit.int .i64 x.JW).wf = true ∧ (Lit.int .i64 x.K5).wf = true ∧ True ∧ x.Vr.size ≤ maxLen ∧ x.YD.size ≤ maxLen ∧ (Lit.int .i64 x.Rr).wf = true
def Kg (x : ZS) : Prop := (Lit.int .u32 x.Zy).wf = true ∧ (Lit.int .i64 x.ZK).wf = true
def Zdm (x : VC) : Prop := True ∧ Kg x.Zp ∧ (Lit.int .i64 x.Zbm).wf = true ∧ (Lit.int .i64 x.Zbn).wf = true
def Zac (x : ZF) : Prop := x.ZJ.size ≤ maxLen ∧ (x.Z0.length ≤ maxLen ∧ x.Z0.length * 40 ≤ reachBytes ∧ ∀ y ∈ x.Z0,Zdm y)
def Ze4 (x : Ul) : Prop := True ∧ x.QE.size ≤ maxLen ∧ (Lit.int .i64 x.UK).wf = true ∧ (Lit.int .i64 x.WB).wf = true ∧ (Lit.int .i64 x.GN).wf = true ∧ (Lit.int .i64 x.UU).wf = true ∧ (Lit.int .i64 x.UV).wf = true
def Zcg (x : Xy) : Prop := x.ZJ.size ≤ maxLen ∧ (x.Z4.length ≤ maxLen ∧ x.Z4.length * 64 ≤ reachBytes ∧ ∀ y ∈ x.Z4,Ze4 y)
def Zch (x : ZcP) : Prop := (Lit.int .u32 x.Zy).wf = true ∧ (Lit.int .u32 x.U7).wf = true
def ZaX (x : Vd) : Prop := (Lit.int .i64 x.Gv).wf = true ∧ (Lit.int .i64 x.G4).wf = true
def Zkp (x : Ku) : Prop := True ∧ (Lit.int .i64 x.Yc).wf = true ∧ Zch x.KX ∧ Zch x.KY ∧ ZaX x.JR ∧ ZaX x.JS
def ZjU (x : V2) : Prop := x.ZJ.size ≤ maxLen ∧ (x.Z0.length ≤ maxLen ∧ x.Z0.length * 64 ≤ reachBytes ∧ ∀ y ∈ x.Z0,Zkp y)
def Rx (x : Y1) : Prop := (Lit.int .i64 x.JX).wf = true ∧ (Lit.int .u32 x.Qj).wf = true ∧ (Lit.int .u32 x.Yv).wf = true ∧ (Lit.int .i64 x.Yc).wf = true ∧ (Lit.int .i64 x.Qp).wf = true ∧ (Lit.int .i64 x.YO).wf = true ∧ x.QE.size ≤ maxLen ∧ (Lit.int .u32 x.Gv).wf = true ∧ (Lit.int .u32 x.G4).wf = true
def Ry (x : Yk) : Prop := Kg x.Zp ∧ (Lit.int .u32 x.Ve).wf = true ∧ x.Qx.size ≤ maxLen ∧ True ∧ (Lit.int .i64 x.Xd).wf = true ∧ (Lit.int .i64 x.UK).wf = true
def Zex (x : We) : Prop := (Lit.int .i64 x.JW).wf = true ∧ Kg x.Zp
def Zaz (x : Yi) : Prop := (Lit.int .i64 x.WT).wf = true ∧ (Lit.int .i64 x.Kv).wf = true ∧ (Lit.int .i64 x.UK).wf = true ∧ x.Rs.size ≤ maxLen ∧ (Lit.int .i64 x.Ke).wf = true
def ZaY (x : WC) : Prop := True ∧ (Lit.int .i64 x.Xd).wf = true ∧ (x.ZE.length ≤ maxLen ∧ x.ZE.length * 24 ≤ reachBytes ∧ ∀ y ∈ x.ZE,Zex y) ∧ (x.Zs.length ≤ maxLen ∧ x.Zs.length * 48 ≤ reachBytes ∧ ∀ y ∈ x.Zs,Zaz y)
def KE (x : QF) : Prop := True ∧ (Lit.int .i64 x.Xd).wf = true ∧ x.Vr.size ≤ maxLen ∧ x.YD.size ≤ maxLen ∧ (x.Zs.length ≤ maxLen ∧ x.Zs.length * 48 ≤ reachBytes ∧ ∀ y ∈ x.Zs,Zaz y)
def Zci (x : VH) : Prop := (Lit.int .u32 x.Zy).wf = true ∧ (Lit.int .i64 x.GA).wf = true ∧ x.Vr.size ≤ maxLen ∧ x.YD.size ≤ maxLen
def Zey (x : Wf) : Prop := Kg x.Zp ∧ True
def Zez (x : Wg) : Prop := Kg x.Zp ∧ Kg x.fIf ∧ True
def Zad (x : Xg) : Prop := True ∧ (Lit.int .i64 x.XN).wf = true ∧ (Lit.int .i64 x.XO).wf = true ∧ (x.Zk.length ≤ maxLen ∧ x.Zk.length * 48 ≤ reachBytes ∧ ∀ y ∈ x.Zk,Zci y) ∧ (x.Zt.length ≤ maxLen ∧ x.Zt.length * 16 ≤ reachBytes ∧ ∀ y ∈ x.Zt,Kg y) ∧ (x.Zq.length ≤ maxLen ∧ x.Zq.length * 24 ≤ reachBytes ∧ ∀ y ∈ x.Zq,Zey y) ∧ (x.Zm.length ≤ maxLen ∧ x.Zm.length * 40 ≤ reachBytes ∧ ∀ y ∈ x.Zm,Zez y) ∧ (x.Zs.length ≤ maxLen ∧ x.Zs.length * 48 ≤ reachBytes ∧ ∀ y ∈ x.Zs,Zaz y)
def ZcQ (x : Zf) : Prop := x.ZJ.size ≤ maxLen ∧ (Lit.int .i64 x.GA).wf = true ∧ (x.Zc.length ≤ maxLen ∧ x.Zc.length * 112 ≤ reachBytes ∧ ∀ y ∈ x.Zc,ZaW y) ∧ (x.Z1.length ≤ maxLen ∧ x.Z1.length * 40 ≤ reachBytes ∧ ∀ y ∈ x.Z1,Zac y) ∧ (x.ZR.length ≤ maxLen ∧ x.ZR.length * 40 ≤ reachBytes ∧ ∀ y ∈ x.ZR,Zcg y) ∧ (x.Xh.length ≤ maxLen ∧ x.Xh.length * 40 ≤ reachBytes ∧ ∀ y ∈ x.Xh,ZjU y) ∧ (x.Xf.length ≤ maxLen ∧ x.Xf.length * 64 ≤ reachBytes ∧ ∀ y ∈ x.Xf,Rx y) ∧ (x.Zr.length ≤ maxLen ∧ x.Zr.length * 64 ≤ reachBytes ∧ ∀ y ∈ x.Zr,Ry y) ∧ ZaY x.X0 ∧ KE x.Ya ∧ Zad x.ZW
def Rz (x : ZG) : Prop := (x.Ze.length ≤ maxLen ∧ x.Ze.length * 448 ≤ reachBytes ∧ ∀ y ∈ x.Ze,ZcQ y)
end Nv
