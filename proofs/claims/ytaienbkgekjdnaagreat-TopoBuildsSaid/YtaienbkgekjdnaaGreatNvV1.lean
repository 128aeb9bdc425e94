/- Data that can come in: the integers fit their kinds, the lengths an int. -/
import Derived.Test.YtaienbkgekjdnaaGreatNvD1
import Derived.Test.YtaienbkgekjdnaaGreatNvLibB
namespace Nv
open Go
def Za7 (x : Zy) : Prop := x.ZX.size ≤ maxLen ∧ (Lit.int .u32 x.Zu).wf = true ∧ (Lit.int .i64 x.ZJ).wf = true ∧ (Lit.int .i64 x.Xu).wf = true ∧ True ∧ True ∧ (Lit.int .i64 x.J7).wf = true ∧ (Lit.int .i64 x.R1).wf = true ∧ True ∧ x.V7.size ≤ maxLen ∧ x.Y2.size ≤ maxLen ∧ (Lit.int .i64 x.Zau).wf = true
def G6 (x : ZL) : Prop := (Lit.int .u32 x.Zu).wf = true ∧ (Lit.int .i64 x.ZJ).wf = true
def ZdD (x : Gt) : Prop := True ∧ G6 x.Zp ∧ (Lit.int .i64 x.Zc5).wf = true ∧ (Lit.int .i64 x.Zc6).wf = true
def Zag (x : Z3) : Prop := x.ZX.size ≤ maxLen ∧ (x.XC.length ≤ maxLen ∧ x.XC.length * 40 ≤ reachBytes ∧ ∀ y ∈ x.XC, ZdD y)
def ZfB (x : Kq) : Prop := True ∧ x.QX.size ≤ maxLen ∧ (Lit.int .i64 x.Gk).wf = true ∧ (Lit.int .i64 x.W3).wf = true ∧ (Lit.int .i64 x.Kr).wf = true ∧ (Lit.int .i64 x.Gu).wf = true ∧ (Lit.int .i64 x.Gv).wf = true
def Zco (x : X4) : Prop := x.ZX.size ≤ maxLen ∧ (x.Xn.length ≤ maxLen ∧ x.Xn.length * 64 ≤ reachBytes ∧ ∀ y ∈ x.Xn, ZfB y)
def Zcp (x : Zc3) : Prop := (Lit.int .u32 x.Zu).wf = true ∧ (Lit.int .u32 x.GJ).wf = true
def Za8 (x : J8) : Prop := (Lit.int .i64 x.GK).wf = true ∧ (Lit.int .i64 x.Ks).wf = true
def Zma (x : Zbt) : Prop := True ∧ (Lit.int .i64 x.Ye).wf = true ∧ Zcp x.Zab ∧ Zcp x.Zac ∧ Za8 x.VB ∧ Za8 x.VC
def Zlx (x : WU) : Prop := x.ZX.size ≤ maxLen ∧ (x.XC.length ≤ maxLen ∧ x.XC.length * 64 ≤ reachBytes ∧ ∀ y ∈ x.XC, Zma y)
def RA (x : YZ) : Prop := (Lit.int .i64 x.J5).wf = true ∧ (Lit.int .u32 x.Qq).wf = true ∧ (Lit.int .u32 x.YA).wf = true ∧ (Lit.int .i64 x.Ye).wf = true ∧ (Lit.int .i64 x.QR).wf = true ∧ (Lit.int .i64 x.Ql).wf = true ∧ x.QX.size ≤ maxLen ∧ (Lit.int .u32 x.GK).wf = true ∧ (Lit.int .u32 x.Ks).wf = true
def RB (x : Yf) : Prop := G6 x.Zp ∧ (Lit.int .u32 x.Vu).wf = true ∧ x.QI.size ≤ maxLen ∧ True ∧ (Lit.int .i64 x.Xl).wf = true ∧ (Lit.int .i64 x.Gk).wf = true
def ZeZ (x : Wg) : Prop := (Lit.int .i64 x.J7).wf = true ∧ G6 x.Zp
def ZaG (x : YB) : Prop := (Lit.int .i64 x.WX).wf = true ∧ (Lit.int .i64 x.Rj).wf = true ∧ (Lit.int .i64 x.Gk).wf = true ∧ x.Zad.size ≤ maxLen ∧ (Lit.int .i64 x.KG).wf = true
def Za9 (x : Wv) : Prop := True ∧ (Lit.int .i64 x.Xl).wf = true ∧ (x.ZK.length ≤ maxLen ∧ x.ZK.length * 24 ≤ reachBytes ∧ ∀ y ∈ x.ZK, ZeZ y) ∧ (x.Zv.length ≤ maxLen ∧ x.Zv.length * 48 ≤ reachBytes ∧ ∀ y ∈ x.Zv, ZaG y)
def Ky (x : QD) : Prop := True ∧ (Lit.int .i64 x.Xl).wf = true ∧ x.V7.size ≤ maxLen ∧ x.Y2.size ≤ maxLen ∧ (x.Zv.length ≤ maxLen ∧ x.Zv.length * 48 ≤ reachBytes ∧ ∀ y ∈ x.Zv, ZaG y)
def Zcq (x : VD) : Prop := (Lit.int .u32 x.Zu).wf = true ∧ (Lit.int .i64 x.Kt).wf = true ∧ x.V7.size ≤ maxLen ∧ x.Y2.size ≤ maxLen
def Ze0 (x : Wh) : Prop := G6 x.Zp ∧ True
def Ze1 (x : Wi) : Prop := G6 x.Zp ∧ G6 x.fIf ∧ True
def Zah (x : Z6) : Prop := True ∧ (Lit.int .i64 x.X7).wf = true ∧ (Lit.int .i64 x.X8).wf = true ∧ (x.Zl.length ≤ maxLen ∧ x.Zl.length * 48 ≤ reachBytes ∧ ∀ y ∈ x.Zl, Zcq y) ∧ (x.Zt.length ≤ maxLen ∧ x.Zt.length * 16 ≤ reachBytes ∧ ∀ y ∈ x.Zt, G6 y) ∧ (x.Zr.length ≤ maxLen ∧ x.Zr.length * 24 ≤ reachBytes ∧ ∀ y ∈ x.Zr, Ze0 y) ∧ (x.Zo.length ≤ maxLen ∧ x.Zo.length * 40 ≤ reachBytes ∧ ∀ y ∈ x.Zo, Ze1 y) ∧ (x.Zv.length ≤ maxLen ∧ x.Zv.length * 48 ≤ reachBytes ∧ ∀ y ∈ x.Zv, ZaG y)
def ZfC (x : Zf) : Prop := x.ZX.size ≤ maxLen ∧ (Lit.int .i64 x.Kt).wf = true ∧ (x.Zc.length ≤ maxLen ∧ x.Zc.length * 112 ≤ reachBytes ∧ ∀ y ∈ x.Zc, Za7 y) ∧ (x.Xm.length ≤ maxLen ∧ x.Xm.length * 40 ≤ reachBytes ∧ ∀ y ∈ x.Xm, Zag y) ∧ (x.Xa.length ≤ maxLen ∧ x.Xa.length * 40 ≤ reachBytes ∧ ∀ y ∈ x.Xa, Zco y) ∧ (x.XR.length ≤ maxLen ∧ x.XR.length * 40 ≤ reachBytes ∧ ∀ y ∈ x.XR, Zlx y) ∧ (x.Xf.length ≤ maxLen ∧ x.Xf.length * 64 ≤ reachBytes ∧ ∀ y ∈ x.Xf, RA y) ∧ (x.Zq.length ≤ maxLen ∧ x.Zq.length * 64 ≤ reachBytes ∧ ∀ y ∈ x.Zq, RB y) ∧ Za9 x.Yl ∧ Ky x.YH ∧ Zah x.Xd
def Zd5 (x : ZY) : Prop := (x.Zd.length ≤ maxLen ∧ x.Zd.length * 448 ≤ reachBytes ∧ ∀ y ∈ x.Zd, ZfC y)
end Nv
