/- Data that can come in: the integers fit their kinds, the lengths an int. -/
import Derived.Test.YtaienbkgekjdnaaGreatNvD1
import Derived.Test.YtaienbkgekjdnaaGreatNvLibB
namespace Nv
open Go
def KD (x : Zl) : Prop := x.Xl.size ≤ maxLen ∧ (Lit.int .u32 x.Zs).wf = true ∧ (Lit.int .i64 x.ZR).wf = true ∧ (Lit.int .i64 x.XB).wf = true ∧ True ∧ True ∧ (Lit.int .i64 x.VR).wf = true ∧ (Lit.int .i64 x.Zbz).wf = true ∧ True ∧ x.VH.size ≤ maxLen ∧ x.Y8.size ≤ maxLen ∧ (Lit.int .i64 x.Rm).wf = true
def Uv (x : ZX) : Prop := (Lit.int .u32 x.Zs).wf = true ∧ (Lit.int .i64 x.ZR).wf = true
def ZaD (x : W7) : Prop := True ∧ Uv x.Zo ∧ (Lit.int .i64 x.Zh3).wf = true ∧ (Lit.int .i64 x.Zh4).wf = true
def GX (x : Z2) : Prop := x.Xl.size ≤ maxLen ∧ (x.YG.length ≤ maxLen ∧ x.YG.length * 40 ≤ reachBytes ∧ ∀ y ∈ x.YG, ZaD y)
def Zcv (x : R7) : Prop := True ∧ x.J0.size ≤ maxLen ∧ (Lit.int .i64 x.Ks).wf = true ∧ (Lit.int .i64 x.Gm).wf = true ∧ (Lit.int .i64 x.ZbB).wf = true ∧ (Lit.int .i64 x.Rn).wf = true ∧ (Lit.int .i64 x.Ro).wf = true
def RI (x : X6) : Prop := x.Xl.size ≤ maxLen ∧ (x.XZ.length ≤ maxLen ∧ x.XZ.length * 64 ≤ reachBytes ∧ ∀ y ∈ x.XZ, Zcv y)
def RJ (x : R8) : Prop := (Lit.int .u32 x.Zs).wf = true ∧ (Lit.int .u32 x.Gc).wf = true
def KE (x : VA) : Prop := (Lit.int .i64 x.G9).wf = true ∧ (Lit.int .i64 x.KR).wf = true
def ZhA (x : Zd5) : Prop := True ∧ (Lit.int .i64 x.YR).wf = true ∧ RJ x.ZaQ ∧ RJ x.ZaR ∧ KE x.Ue ∧ KE x.Uf
def Zg5 (x : WW) : Prop := x.Xl.size ≤ maxLen ∧ (x.YG.length ≤ maxLen ∧ x.YG.length * 64 ≤ reachBytes ∧ ∀ y ∈ x.YG, ZhA y)
def Gu (x : YS) : Prop := (Lit.int .i64 x.Wk).wf = true ∧ (Lit.int .u32 x.JA).wf = true ∧ (Lit.int .u32 x.QA).wf = true ∧ (Lit.int .i64 x.YR).wf = true ∧ (Lit.int .i64 x.JP).wf = true ∧ (Lit.int .i64 x.Jf).wf = true ∧ x.J0.size ≤ maxLen ∧ (Lit.int .u32 x.G9).wf = true ∧ (Lit.int .u32 x.KR).wf = true
def Gv (x : YT) : Prop := Uv x.Zo ∧ (Lit.int .u32 x.UH).wf = true ∧ x.XY.size ≤ maxLen ∧ True ∧ (Lit.int .i64 x.Xq).wf = true ∧ (Lit.int .i64 x.Ks).wf = true
def ZbW (x : J1) : Prop := (Lit.int .i64 x.VR).wf = true ∧ Uv x.Zo
def Km (x : YJ) : Prop := (Lit.int .i64 x.Gn).wf = true ∧ (Lit.int .i64 x.ZbC).wf = true ∧ (Lit.int .i64 x.Ks).wf = true ∧ x.Zcj.size ≤ maxLen ∧ (Lit.int .i64 x.ZcO).wf = true
def KF (x : Vg) : Prop := True ∧ (Lit.int .i64 x.Xq).wf = true ∧ (x.Z6.length ≤ maxLen ∧ x.Z6.length * 24 ≤ reachBytes ∧ ∀ y ∈ x.Z6, ZbW y) ∧ (x.Zr.length ≤ maxLen ∧ x.Zr.length * 48 ≤ reachBytes ∧ ∀ y ∈ x.Zr, Km y)
def UM (x : YB) : Prop := True ∧ (Lit.int .i64 x.Xq).wf = true ∧ x.VH.size ≤ maxLen ∧ x.Y8.size ≤ maxLen ∧ (x.Zr.length ≤ maxLen ∧ x.Zr.length * 48 ≤ reachBytes ∧ ∀ y ∈ x.Zr, Km y)
def RK (x : Ju) : Prop := (Lit.int .u32 x.Zs).wf = true ∧ (Lit.int .i64 x.Gf).wf = true ∧ x.VH.size ≤ maxLen ∧ x.Y8.size ≤ maxLen
def ZbX (x : J2) : Prop := Uv x.Zo ∧ True
def ZbY (x : J3) : Prop := Uv x.Zo ∧ Uv x.fIf ∧ True
def GY (x : Xw) : Prop := True ∧ (Lit.int .i64 x.XU).wf = true ∧ (Lit.int .i64 x.XV).wf = true ∧ (x.Zm.length ≤ maxLen ∧ x.Zm.length * 48 ≤ reachBytes ∧ ∀ y ∈ x.Zm, RK y) ∧ (x.Z0.length ≤ maxLen ∧ x.Z0.length * 16 ≤ reachBytes ∧ ∀ y ∈ x.Z0, Uv y) ∧ (x.ZC.length ≤ maxLen ∧ x.ZC.length * 24 ≤ reachBytes ∧ ∀ y ∈ x.ZC, ZbX y) ∧ (x.Zt.length ≤ maxLen ∧ x.Zt.length * 40 ≤ reachBytes ∧ ∀ y ∈ x.Zt, ZbY y) ∧ (x.Zr.length ≤ maxLen ∧ x.Zr.length * 48 ≤ reachBytes ∧ ∀ y ∈ x.Zr, Km y)
def Zcw (x : Zf) : Prop := x.Xl.size ≤ maxLen ∧ (Lit.int .i64 x.Gf).wf = true ∧ (x.Zc.length ≤ maxLen ∧ x.Zc.length * 112 ≤ reachBytes ∧ ∀ y ∈ x.Zc, KD y) ∧ (x.Yt.length ≤ maxLen ∧ x.Yt.length * 40 ≤ reachBytes ∧ ∀ y ∈ x.Yt, GX y) ∧ (x.XC.length ≤ maxLen ∧ x.XC.length * 40 ≤ reachBytes ∧ ∀ y ∈ x.XC, RI y) ∧ (x.YC.length ≤ maxLen ∧ x.YC.length * 40 ≤ reachBytes ∧ ∀ y ∈ x.YC, Zg5 y) ∧ (x.Xd.length ≤ maxLen ∧ x.Xd.length * 64 ≤ reachBytes ∧ ∀ y ∈ x.Xd, Gu y) ∧ (x.Zq.length ≤ maxLen ∧ x.Zq.length * 64 ≤ reachBytes ∧ ∀ y ∈ x.Zq, Gv y) ∧ KF x.Yf ∧ UM x.Ym ∧ GY x.Xr
def Za1 (x : Zw) : Prop := (x.Zd.length ≤ maxLen ∧ x.Zd.length * 448 ≤ reachBytes ∧ ∀ y ∈ x.Zd, Zcw y)
end Nv
