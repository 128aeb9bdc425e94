/- Data that can come in: the integers fit their kinds, the lengths an int. -/
import Derived.Test.YtaienbkgekjdnaaGreatNvD1
import Derived.Test.YtaienbkgekjdnaaGreatNvLibB
namespace Nv
open Go
def KC (x : Zl) : Prop := x.Xl.size ≤ maxLen ∧ (Lit.int .u32 x.Zs).wf = true ∧ (Lit.int .i64 x.ZR).wf = true ∧ (Lit.int .i64 x.XB).wf = true ∧ True ∧ True ∧ (Lit.int .i64 x.VQ).wf = true ∧ (Lit.int .i64 x.Zbz).wf = true ∧ True ∧ x.VG.size ≤ maxLen ∧ x.Y7.size ≤ maxLen ∧ (Lit.int .i64 x.Rl).wf = true
def Uu (x : ZX) : Prop := (Lit.int .u32 x.Zs).wf = true ∧ (Lit.int .i64 x.ZR).wf = true
def ZaC (x : W6) : Prop := True ∧ Uu x.Zo ∧ (Lit.int .i64 x.Zh2).wf = true ∧ (Lit.int .i64 x.Zh3).wf = true
def GW (x : Z2) : Prop := x.Xl.size ≤ maxLen ∧ (x.YG.length ≤ maxLen ∧ x.YG.length * 40 ≤ reachBytes ∧ ∀ y ∈ x.YG, ZaC y)
def Zcv (x : R6) : Prop := True ∧ x.JZ.size ≤ maxLen ∧ (Lit.int .i64 x.Kr).wf = true ∧ (Lit.int .i64 x.Gl).wf = true ∧ (Lit.int .i64 x.ZbB).wf = true ∧ (Lit.int .i64 x.Rm).wf = true ∧ (Lit.int .i64 x.Rn).wf = true
def RH (x : X6) : Prop := x.Xl.size ≤ maxLen ∧ (x.XZ.length ≤ maxLen ∧ x.XZ.length * 64 ≤ reachBytes ∧ ∀ y ∈ x.XZ, Zcv y)
def RI (x : R7) : Prop := (Lit.int .u32 x.Zs).wf = true ∧ (Lit.int .u32 x.Gb).wf = true
def KD (x : Vz) : Prop := (Lit.int .i64 x.G8).wf = true ∧ (Lit.int .i64 x.KQ).wf = true
def Zhz (x : Zd4) : Prop := True ∧ (Lit.int .i64 x.YQ).wf = true ∧ RI x.ZaP ∧ RI x.ZaQ ∧ KD x.Ud ∧ KD x.Ue
def Zg4 (x : WV) : Prop := x.Xl.size ≤ maxLen ∧ (x.YG.length ≤ maxLen ∧ x.YG.length * 64 ≤ reachBytes ∧ ∀ y ∈ x.YG, Zhz y)
def Gt (x : YR) : Prop := (Lit.int .i64 x.Wj).wf = true ∧ (Lit.int .u32 x.Jz).wf = true ∧ (Lit.int .u32 x.Qz).wf = true ∧ (Lit.int .i64 x.YQ).wf = true ∧ (Lit.int .i64 x.JO).wf = true ∧ (Lit.int .i64 x.Je).wf = true ∧ x.JZ.size ≤ maxLen ∧ (Lit.int .u32 x.G8).wf = true ∧ (Lit.int .u32 x.KQ).wf = true
def Gu (x : YS) : Prop := Uu x.Zo ∧ (Lit.int .u32 x.UG).wf = true ∧ x.XY.size ≤ maxLen ∧ True ∧ (Lit.int .i64 x.Xq).wf = true ∧ (Lit.int .i64 x.Kr).wf = true
def ZbW (x : J0) : Prop := (Lit.int .i64 x.VQ).wf = true ∧ Uu x.Zo
def Kl (x : YJ) : Prop := (Lit.int .i64 x.Gm).wf = true ∧ (Lit.int .i64 x.ZbC).wf = true ∧ (Lit.int .i64 x.Kr).wf = true ∧ x.Zcj.size ≤ maxLen ∧ (Lit.int .i64 x.ZcO).wf = true
def KE (x : Vf) : Prop := True ∧ (Lit.int .i64 x.Xq).wf = true ∧ (x.Z6.length ≤ maxLen ∧ x.Z6.length * 24 ≤ reachBytes ∧ ∀ y ∈ x.Z6, ZbW y) ∧ (x.Zr.length ≤ maxLen ∧ x.Zr.length * 48 ≤ reachBytes ∧ ∀ y ∈ x.Zr, Kl y)
def UL (x : YB) : Prop := True ∧ (Lit.int .i64 x.Xq).wf = true ∧ x.VG.size ≤ maxLen ∧ x.Y7.size ≤ maxLen ∧ (x.Zr.length ≤ maxLen ∧ x.Zr.length * 48 ≤ reachBytes ∧ ∀ y ∈ x.Zr, Kl y)
def RJ (x : Jt) : Prop := (Lit.int .u32 x.Zs).wf = true ∧ (Lit.int .i64 x.Ge).wf = true ∧ x.VG.size ≤ maxLen ∧ x.Y7.size ≤ maxLen
def ZbX (x : J1) : Prop := Uu x.Zo ∧ True
def ZbY (x : J2) : Prop := Uu x.Zo ∧ Uu x.fIf ∧ True
def GX (x : Xw) : Prop := True ∧ (Lit.int .i64 x.XU).wf = true ∧ (Lit.int .i64 x.XV).wf = true ∧ (x.Zm.length ≤ maxLen ∧ x.Zm.length * 48 ≤ reachBytes ∧ ∀ y ∈ x.Zm, RJ y) ∧ (x.Z0.length ≤ maxLen ∧ x.Z0.length * 16 ≤ reachBytes ∧ ∀ y ∈ x.Z0, Uu y) ∧ (x.ZC.length ≤ maxLen ∧ x.ZC.length * 24 ≤ reachBytes ∧ ∀ y ∈ x.ZC, ZbX y) ∧ (x.Zt.length ≤ maxLen ∧ x.Zt.length * 40 ≤ reachBytes ∧ ∀ y ∈ x.Zt, ZbY y) ∧ (x.Zr.length ≤ maxLen ∧ x.Zr.length * 48 ≤ reachBytes ∧ ∀ y ∈ x.Zr, Kl y)
def Zcw (x : Zf) : Prop := x.Xl.size ≤ maxLen ∧ (Lit.int .i64 x.Ge).wf = true ∧ (x.Zc.length ≤ maxLen ∧ x.Zc.length * 112 ≤ reachBytes ∧ ∀ y ∈ x.Zc, KC y) ∧ (x.Yt.length ≤ maxLen ∧ x.Yt.length * 40 ≤ reachBytes ∧ ∀ y ∈ x.Yt, GW y) ∧ (x.XC.length ≤ maxLen ∧ x.XC.length * 40 ≤ reachBytes ∧ ∀ y ∈ x.XC, RH y) ∧ (x.YC.length ≤ maxLen ∧ x.YC.length * 40 ≤ reachBytes ∧ ∀ y ∈ x.YC, Zg4 y) ∧ (x.Xd.length ≤ maxLen ∧ x.Xd.length * 64 ≤ reachBytes ∧ ∀ y ∈ x.Xd, Gt y) ∧ (x.Zq.length ≤ maxLen ∧ x.Zq.length * 64 ≤ reachBytes ∧ ∀ y ∈ x.Zq, Gu y) ∧ KE x.Yf ∧ UL x.Ym ∧ GX x.Xr
def Za0 (x : Zw) : Prop := (x.Zd.length ≤ maxLen ∧ x.Zd.length * 448 ≤ reachBytes ∧ ∀ y ∈ x.Zd, Zcw y)
end Nv
