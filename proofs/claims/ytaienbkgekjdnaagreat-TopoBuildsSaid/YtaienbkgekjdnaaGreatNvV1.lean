/- Data that can come in: the integers fit their kinds, the lengths an int. -/
import Derived.Test.YtaienbkgekjdnaaGreatNvD1
import Derived.Test.YtaienbkgekjdnaaGreatNvLibB
namespace Nv
open Go
def R6 (x : Zy) : Prop := x.ZW.size ≤ maxLen ∧ (Lit.int .u32 x.Zu).wf = true ∧ (Lit.int .i64 x.ZJ).wf = true ∧ (Lit.int .i64 x.Xr).wf = true ∧ True ∧ True ∧ (Lit.int .i64 x.JV).wf = true ∧ (Lit.int .i64 x.K4).wf = true ∧ True ∧ x.VQ.size ≤ maxLen ∧ x.YV.size ≤ maxLen ∧ (Lit.int .i64 x.Rw).wf = true
def Gt (x : ZL) : Prop := (Lit.int .u32 x.Zu).wf = true ∧ (Lit.int .i64 x.ZJ).wf = true
def Zcn (x : UY) : Prop := True ∧ Gt x.Zp ∧ (Lit.int .i64 x.ZbR).wf = true ∧ (Lit.int .i64 x.ZbS).wf = true
def Rj (x : Z1) : Prop := x.ZW.size ≤ maxLen ∧ (x.Xz.length ≤ maxLen ∧ x.Xz.length * 40 ≤ reachBytes ∧ ∀ y ∈ x.Xz, Zcn y)
def Zd6 (x : GK) : Prop := True ∧ x.QP.size ≤ maxLen ∧ (Lit.int .i64 x.US).wf = true ∧ (Lit.int .i64 x.WL).wf = true ∧ (Lit.int .i64 x.GL).wf = true ∧ (Lit.int .i64 x.UZ).wf = true ∧ (Lit.int .i64 x.U0).wf = true
def Zbg (x : X1) : Prop := x.ZW.size ≤ maxLen ∧ (x.Xl.length ≤ maxLen ∧ x.Xl.length * 64 ≤ reachBytes ∧ ∀ y ∈ x.Xl, Zd6 y)
def Zbh (x : ZbP) : Prop := (Lit.int .u32 x.Zu).wf = true ∧ (Lit.int .u32 x.Gb).wf = true
def R7 (x : JW) : Prop := (Lit.int .i64 x.Gc).wf = true ∧ (Lit.int .i64 x.GM).wf = true
def Zjg (x : Zar) : Prop := True ∧ (Lit.int .i64 x.Yb).wf = true ∧ Zbh x.Re ∧ Zbh x.Rf ∧ R7 x.Vm ∧ R7 x.Vn
def ZiM (x : WD) : Prop := x.ZW.size ≤ maxLen ∧ (x.Xz.length ≤ maxLen ∧ x.Xz.length * 64 ≤ reachBytes ∧ ∀ y ∈ x.Xz, Zjg y)
def KG (x : YS) : Prop := (Lit.int .i64 x.JT).wf = true ∧ (Lit.int .u32 x.Qj).wf = true ∧ (Lit.int .u32 x.Yv).wf = true ∧ (Lit.int .i64 x.Yb).wf = true ∧ (Lit.int .i64 x.QI).wf = true ∧ (Lit.int .i64 x.Qe).wf = true ∧ x.QP.size ≤ maxLen ∧ (Lit.int .u32 x.Gc).wf = true ∧ (Lit.int .u32 x.GM).wf = true
def KH (x : Yc) : Prop := Gt x.Zp ∧ (Lit.int .u32 x.Vf).wf = true ∧ x.QB.size ≤ maxLen ∧ True ∧ (Lit.int .i64 x.Xj).wf = true ∧ (Lit.int .i64 x.US).wf = true
def ZdA (x : VZ) : Prop := (Lit.int .i64 x.JV).wf = true ∧ Gt x.Zp
def RI (x : Yw) : Prop := (Lit.int .i64 x.WG).wf = true ∧ (Lit.int .i64 x.Ks).wf = true ∧ (Lit.int .i64 x.US).wf = true ∧ x.Rg.size ≤ maxLen ∧ (Lit.int .i64 x.G0).wf = true
def R8 (x : We) : Prop := True ∧ (Lit.int .i64 x.Xj).wf = true ∧ (x.ZK.length ≤ maxLen ∧ x.ZK.length * 24 ≤ reachBytes ∧ ∀ y ∈ x.ZK, ZdA y) ∧ (x.Zv.length ≤ maxLen ∧ x.Zv.length * 48 ≤ reachBytes ∧ ∀ y ∈ x.Zv, RI y)
def GS (x : Qw) : Prop := True ∧ (Lit.int .i64 x.Xj).wf = true ∧ x.VQ.size ≤ maxLen ∧ x.YV.size ≤ maxLen ∧ (x.Zv.length ≤ maxLen ∧ x.Zv.length * 48 ≤ reachBytes ∧ ∀ y ∈ x.Zv, RI y)
def Zbi (x : Vo) : Prop := (Lit.int .u32 x.Zu).wf = true ∧ (Lit.int .i64 x.GN).wf = true ∧ x.VQ.size ≤ maxLen ∧ x.YV.size ≤ maxLen
def ZdB (x : V0) : Prop := Gt x.Zp ∧ True
def ZdC (x : V2) : Prop := Gt x.Zp ∧ Gt x.fIf ∧ True
def Rk (x : Z4) : Prop := True ∧ (Lit.int .i64 x.X4).wf = true ∧ (Lit.int .i64 x.X5).wf = true ∧ (x.Zl.length ≤ maxLen ∧ x.Zl.length * 48 ≤ reachBytes ∧ ∀ y ∈ x.Zl, Zbi y) ∧ (x.Zt.length ≤ maxLen ∧ x.Zt.length * 16 ≤ reachBytes ∧ ∀ y ∈ x.Zt, Gt y) ∧ (x.Zr.length ≤ maxLen ∧ x.Zr.length * 24 ≤ reachBytes ∧ ∀ y ∈ x.Zr, ZdB y) ∧ (x.Zo.length ≤ maxLen ∧ x.Zo.length * 40 ≤ reachBytes ∧ ∀ y ∈ x.Zo, ZdC y) ∧ (x.Zv.length ≤ maxLen ∧ x.Zv.length * 48 ≤ reachBytes ∧ ∀ y ∈ x.Zv, RI y)
def Zd7 (x : Zf) : Prop := x.ZW.size ≤ maxLen ∧ (Lit.int .i64 x.GN).wf = true ∧ (x.Zc.length ≤ maxLen ∧ x.Zc.length * 112 ≤ reachBytes ∧ ∀ y ∈ x.Zc, R6 y) ∧ (x.Xk.length ≤ maxLen ∧ x.Xk.length * 40 ≤ reachBytes ∧ ∀ y ∈ x.Xk, Rj y) ∧ (x.Z8.length ≤ maxLen ∧ x.Z8.length * 40 ≤ reachBytes ∧ ∀ y ∈ x.Z8, Zbg y) ∧ (x.XO.length ≤ maxLen ∧ x.XO.length * 40 ≤ reachBytes ∧ ∀ y ∈ x.XO, ZiM y) ∧ (x.Xd.length ≤ maxLen ∧ x.Xd.length * 64 ≤ reachBytes ∧ ∀ y ∈ x.Xd, KG y) ∧ (x.Zq.length ≤ maxLen ∧ x.Zq.length * 64 ≤ reachBytes ∧ ∀ y ∈ x.Zq, KH y) ∧ R8 x.Yi ∧ GS x.YC ∧ Rk x.Xb
def ZcN (x : ZX) : Prop := (x.Zd.length ≤ maxLen ∧ x.Zd.length * 448 ≤ reachBytes ∧ ∀ y ∈ x.Zd, Zd7 y)
end Nv
