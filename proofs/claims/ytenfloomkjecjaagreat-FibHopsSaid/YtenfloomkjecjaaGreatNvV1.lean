/- Data that can come in: the integers fit their kinds, the lengths an int. -/
import Derived.Test.YtenfloomkjecjaaGreatNvD1
import Derived.Test.YtenfloomkjecjaaGreatNvLibB
namespace Nv
open Go
def RR (x : ZA) : Prop := x.XB.size ≤ maxLen ∧ (Lit.int .u32 x.Zn).wf = true ∧ (Lit.int .i64 x.ZL).wf = true ∧ (Lit.int .i64 x.XH).wf = true ∧ True ∧ True ∧ (Lit.int .i64 x.WI).wf = true ∧ (Lit.int .i64 x.Zc2).wf = true ∧ True ∧ x.Ww.size ≤ maxLen ∧ x.Qr.size ≤ maxLen ∧ (Lit.int .i64 x.ZaF).wf = true
def U8 (x : ZM) : Prop := (Lit.int .u32 x.Zn).wf = true ∧ (Lit.int .i64 x.ZL).wf = true
def Zb0 (x : UY) : Prop := True ∧ U8 x.Zl ∧ (Lit.int .i64 x.Zj8).wf = true ∧ (Lit.int .i64 x.Zj9).wf = true
def K6 (x : ZW) : Prop := x.XB.size ≤ maxLen ∧ (x.YX.length ≤ maxLen ∧ x.YX.length * 40 ≤ reachBytes ∧ ∀ y ∈ x.YX,Zb0 y)
def Zd5 (x : Zbu) : Prop := True ∧ x.VD.size ≤ maxLen ∧ (Lit.int .i64 x.UA).wf = true ∧ (Lit.int .i64 x.KA).wf = true ∧ (Lit.int .i64 x.Zc4).wf = true ∧ (Lit.int .i64 x.ZaG).wf = true ∧ (Lit.int .i64 x.ZaH).wf = true
def Za2 (x : Yl) : Prop := x.XB.size ≤ maxLen ∧ (x.X5.length ≤ maxLen ∧ x.X5.length * 64 ≤ reachBytes ∧ ∀ y ∈ x.X5,Zd5 y)
def Za3 (x : Zbv) : Prop := (Lit.int .u32 x.Zn).wf = true ∧ (Lit.int .u32 x.Kl).wf = true
def RT (x : Wn) : Prop := (Lit.int .i64 x.Rg).wf = true ∧ (Lit.int .i64 x.fHi).wf = true
def ZjE (x : ZfJ) : Prop := True ∧ (Lit.int .i64 x.X1).wf = true ∧ Za3 x.Zch ∧ Za3 x.Zci ∧ RT x.U4 ∧ RT x.U5
def Zi3 (x : US) : Prop := x.XB.size ≤ maxLen ∧ (x.YX.length ≤ maxLen ∧ x.YX.length * 64 ≤ reachBytes ∧ ∀ y ∈ x.YX,ZjE y)
def KF (x : Qx) : Prop := (Lit.int .i64 x.Ua).wf = true ∧ (Lit.int .u32 x.J5).wf = true ∧ (Lit.int .u32 x.QY).wf = true ∧ (Lit.int .i64 x.X1).wf = true ∧ (Lit.int .i64 x.Vp).wf = true ∧ (Lit.int .i64 x.JN).wf = true ∧ x.VD.size ≤ maxLen ∧ (Lit.int .u32 x.Rg).wf = true ∧ (Lit.int .u32 x.fHi).wf = true
def KG (x : X2) : Prop := U8 x.Zl ∧ (Lit.int .u32 x.QI).wf = true ∧ x.ZH.size ≤ maxLen ∧ True ∧ (Lit.int .i64 x.Z2).wf = true ∧ (Lit.int .i64 x.UA).wf = true
def Zdp (x : VY) : Prop := (Lit.int .i64 x.WI).wf = true ∧ U8 x.Zl
def Rx (x : Qt) : Prop := (Lit.int .i64 x.WR).wf = true ∧ (Lit.int .i64 x.Qc).wf = true ∧ (Lit.int .i64 x.UA).wf = true ∧ x.ZdN.size ≤ maxLen ∧ (Lit.int .i64 x.Zeq).wf = true
def RU (x : Wo) : Prop := True ∧ (Lit.int .i64 x.Z2).wf = true ∧ (x.Z4.length ≤ maxLen ∧ x.Z4.length * 24 ≤ reachBytes ∧ ∀ y ∈ x.Z4,Zdp y) ∧ (x.Zu.length ≤ maxLen ∧ x.Zu.length * 48 ≤ reachBytes ∧ ∀ y ∈ x.Zu,Rx y)
def GQ (x : Y9) : Prop := True ∧ (Lit.int .i64 x.Z2).wf = true ∧ x.Ww.size ≤ maxLen ∧ x.Qr.size ≤ maxLen ∧ (x.Zu.length ≤ maxLen ∧ x.Zu.length * 48 ≤ reachBytes ∧ ∀ y ∈ x.Zu,Rx y)
def Za4 (x : Vq) : Prop := (Lit.int .u32 x.Zn).wf = true ∧ (Lit.int .i64 x.Kq).wf = true ∧ x.Ww.size ≤ maxLen ∧ x.Qr.size ≤ maxLen
def Zdq (x : VZ) : Prop := U8 x.Zl ∧ True
def Zdr (x : V0) : Prop := U8 x.Zl ∧ U8 x.fIf ∧ True
def K7 (x : XI) : Prop := True ∧ (Lit.int .i64 x.XZ).wf = true ∧ (Lit.int .i64 x.X0).wf = true ∧ (x.Zo.length ≤ maxLen ∧ x.Zo.length * 48 ≤ reachBytes ∧ ∀ y ∈ x.Zo,Za4 y) ∧ (x.ZT.length ≤ maxLen ∧ x.ZT.length * 16 ≤ reachBytes ∧ ∀ y ∈ x.ZT,U8 y) ∧ (x.ZC.length ≤ maxLen ∧ x.ZC.length * 24 ≤ reachBytes ∧ ∀ y ∈ x.ZC,Zdq y) ∧ (x.Zv.length ≤ maxLen ∧ x.Zv.length * 40 ≤ reachBytes ∧ ∀ y ∈ x.Zv,Zdr y) ∧ (x.Zu.length ≤ maxLen ∧ x.Zu.length * 48 ≤ reachBytes ∧ ∀ y ∈ x.Zu,Rx y)
def Zd6 (x : Zh) : Prop := x.XB.size ≤ maxLen ∧ (Lit.int .i64 x.Kq).wf = true ∧ (x.Zc.length ≤ maxLen ∧ x.Zc.length * 112 ≤ reachBytes ∧ ∀ y ∈ x.Zc,RR y) ∧ (x.YM.length ≤ maxLen ∧ x.YM.length * 40 ≤ reachBytes ∧ ∀ y ∈ x.YM,K6 y) ∧ (x.XJ.length ≤ maxLen ∧ x.XJ.length * 40 ≤ reachBytes ∧ ∀ y ∈ x.XJ,Za2 y) ∧ (x.YW.length ≤ maxLen ∧ x.YW.length * 40 ≤ reachBytes ∧ ∀ y ∈ x.YW,Zi3 y) ∧ (x.Xc.length ≤ maxLen ∧ x.Xc.length * 64 ≤ reachBytes ∧ ∀ y ∈ x.Xc,KF y) ∧ (x.Zp.length ≤ maxLen ∧ x.Zp.length * 64 ≤ reachBytes ∧ ∀ y ∈ x.Zp,KG y) ∧ RU x.Yw ∧ GQ x.YC ∧ K7 x.Xv
def Zcu (x : ZG) : Prop := (x.Ze.length ≤ maxLen ∧ x.Ze.length * 448 ≤ reachBytes ∧ ∀ y ∈ x.Ze,Zd6 y)
def ZlD (x : ZY) : Prop := (Lit.int .i64 x.ZH).wf = true ∧ (Lit.int .u32 x.Zn).wf = true
def Zf0 (x : Z3) : Prop := U8 x.Zl ∧ (Lit.int .i64 x.X1).wf = true ∧ (Lit.int .i64 x.Yi).wf = true ∧ (Lit.int .i64 x.Z2).wf = true ∧ (Lit.int .i64 x.Qc).wf = true ∧ (Lit.int .i64 x.RG).wf = true ∧ (Lit.int .i64 x.UA).wf = true ∧ (Lit.int .i64 x.ZfK).wf = true ∧ (x.WW.length ≤ maxLen ∧ x.WW.length * 8 ≤ reachBytes ∧ ∀ y ∈ x.WW,(Lit.int .i64 y).wf = true) ∧ (Lit.int .u32 x.WR).wf = true ∧ (Lit.int .u32 x.QI).wf = true ∧ (x.ZU.length ≤ maxLen ∧ x.ZU.length * 16 ≤ reachBytes ∧ ∀ y ∈ x.ZU,ZlD y) ∧ True
end Nv
