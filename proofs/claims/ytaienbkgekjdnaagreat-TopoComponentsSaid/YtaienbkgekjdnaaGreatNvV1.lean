/- Data that can come in: the integers fit their kinds, the lengths an int. -/
import Derived.Test.YtaienbkgekjdnaaGreatNvD1
import Derived.Test.YtaienbkgekjdnaaGreatNvLibB
namespace Nv
open Go
def KW (x : Zl) : Prop := x.Xj.size ≤ maxLen ∧ (Lit.int .u32 x.Zy).wf = true ∧ (Lit.int .i64 x.ZW).wf = true ∧ (Lit.int .i64 x.XD).wf = true ∧ True ∧ True ∧ (Lit.int .i64 x.V8).wf = true ∧ (Lit.int .i64 x.ZbZ).wf = true ∧ True ∧ x.VS.size ≤ maxLen ∧ x.Y7.size ≤ maxLen ∧ (Lit.int .i64 x.RJ).wf = true
def UQ (x : ZZ) : Prop := (Lit.int .u32 x.Zy).wf = true ∧ (Lit.int .i64 x.ZW).wf = true
def Za1 (x : Un) : Prop := True ∧ UQ x.Zo ∧ (Lit.int .i64 x.Ziz).wf = true ∧ (Lit.int .i64 x.ZiA).wf = true
def Ki (x : Z2) : Prop := x.Xj.size ≤ maxLen ∧ (x.YG.length ≤ maxLen ∧ x.YG.length * 40 ≤ reachBytes ∧ ∀ y ∈ x.YG, Za1 y)
def ZcY (x : Zax) : Prop := True ∧ x.J1.size ≤ maxLen ∧ (Lit.int .i64 x.KN).wf = true ∧ (Lit.int .i64 x.GJ).wf = true ∧ (Lit.int .i64 x.Zb1).wf = true ∧ (Lit.int .i64 x.RK).wf = true ∧ (Lit.int .i64 x.RL).wf = true
def R8 (x : Ya) : Prop := x.Xj.size ≤ maxLen ∧ (x.XZ.length ≤ maxLen ∧ x.XZ.length * 64 ≤ reachBytes ∧ ∀ y ∈ x.XZ, ZcY y)
def R9 (x : Zay) : Prop := (Lit.int .u32 x.Zy).wf = true ∧ (Lit.int .u32 x.Gw).wf = true
def KX (x : VK) : Prop := (Lit.int .i64 x.Kt).wf = true ∧ (Lit.int .i64 x.Re).wf = true
def Zh3 (x : Zey) : Prop := True ∧ (Lit.int .i64 x.YQ).wf = true ∧ R9 x.Zbe ∧ R9 x.Zbf ∧ KX x.Uv ∧ KX x.Uw
def Zhy (x : Ud) : Prop := x.Xj.size ≤ maxLen ∧ (x.YG.length ≤ maxLen ∧ x.YG.length * 64 ≤ reachBytes ∧ ∀ y ∈ x.YG, Zh3 y)
def GP (x : YR) : Prop := (Lit.int .i64 x.WC).wf = true ∧ (Lit.int .u32 x.Jy).wf = true ∧ (Lit.int .u32 x.Qz).wf = true ∧ (Lit.int .i64 x.YQ).wf = true ∧ (Lit.int .i64 x.JS).wf = true ∧ (Lit.int .i64 x.Jf).wf = true ∧ x.J1.size ≤ maxLen ∧ (Lit.int .u32 x.Kt).wf = true ∧ (Lit.int .u32 x.Re).wf = true
def GQ (x : YS) : Prop := UQ x.Zo ∧ (Lit.int .u32 x.U0).wf = true ∧ x.J2.size ≤ maxLen ∧ True ∧ (Lit.int .i64 x.Xr).wf = true ∧ (Lit.int .i64 x.KN).wf = true
def Zcn (x : J3) : Prop := (Lit.int .i64 x.V8).wf = true ∧ UQ x.Zo
def KI (x : YJ) : Prop := (Lit.int .i64 x.GK).wf = true ∧ (Lit.int .i64 x.Zb2).wf = true ∧ (Lit.int .i64 x.KN).wf = true ∧ x.ZcM.size ≤ maxLen ∧ (Lit.int .i64 x.Zdg).wf = true
def KY (x : Vl) : Prop := True ∧ (Lit.int .i64 x.Xr).wf = true ∧ (x.Z4.length ≤ maxLen ∧ x.Z4.length * 24 ≤ reachBytes ∧ ∀ y ∈ x.Z4, Zcn y) ∧ (x.Zs.length ≤ maxLen ∧ x.Zs.length * 48 ≤ reachBytes ∧ ∀ y ∈ x.Zs, KI y)
def U6 (x : YC) : Prop := True ∧ (Lit.int .i64 x.Xr).wf = true ∧ x.VS.size ≤ maxLen ∧ x.Y7.size ≤ maxLen ∧ (x.Zs.length ≤ maxLen ∧ x.Zs.length * 48 ≤ reachBytes ∧ ∀ y ∈ x.Zs, KI y)
def Zaa (x : Jr) : Prop := (Lit.int .u32 x.Zy).wf = true ∧ (Lit.int .i64 x.GA).wf = true ∧ x.VS.size ≤ maxLen ∧ x.Y7.size ≤ maxLen
def Zco (x : J4) : Prop := UQ x.Zo ∧ True
def Zcp (x : J5) : Prop := UQ x.Zo ∧ UQ x.fIf ∧ True
def Kj (x : Xy) : Prop := True ∧ (Lit.int .i64 x.XX).wf = true ∧ (Lit.int .i64 x.XY).wf = true ∧ (x.Zm.length ≤ maxLen ∧ x.Zm.length * 48 ≤ reachBytes ∧ ∀ y ∈ x.Zm, Zaa y) ∧ (x.Z1.length ≤ maxLen ∧ x.Z1.length * 16 ≤ reachBytes ∧ ∀ y ∈ x.Z1, UQ y) ∧ (x.ZE.length ≤ maxLen ∧ x.ZE.length * 24 ≤ reachBytes ∧ ∀ y ∈ x.ZE, Zco y) ∧ (x.Zt.length ≤ maxLen ∧ x.Zt.length * 40 ≤ reachBytes ∧ ∀ y ∈ x.Zt, Zcp y) ∧ (x.Zs.length ≤ maxLen ∧ x.Zs.length * 48 ≤ reachBytes ∧ ∀ y ∈ x.Zs, KI y)
def ZcZ (x : Zf) : Prop := x.Xj.size ≤ maxLen ∧ (Lit.int .i64 x.GA).wf = true ∧ (x.Zc.length ≤ maxLen ∧ x.Zc.length * 112 ≤ reachBytes ∧ ∀ y ∈ x.Zc, KW y) ∧ (x.Yv.length ≤ maxLen ∧ x.Yv.length * 40 ≤ reachBytes ∧ ∀ y ∈ x.Yv, Ki y) ∧ (x.XE.length ≤ maxLen ∧ x.XE.length * 40 ≤ reachBytes ∧ ∀ y ∈ x.XE, R8 y) ∧ (x.YD.length ≤ maxLen ∧ x.YD.length * 40 ≤ reachBytes ∧ ∀ y ∈ x.YD, Zhy y) ∧ (x.Xa.length ≤ maxLen ∧ x.Xa.length * 64 ≤ reachBytes ∧ ∀ y ∈ x.Xa, GP y) ∧ (x.Zq.length ≤ maxLen ∧ x.Zq.length * 64 ≤ reachBytes ∧ ∀ y ∈ x.Zq, GQ y) ∧ KY x.Yi ∧ U6 x.Yn ∧ Kj x.Xs
def Zbr (x : ZB) : Prop := (x.Zd.length ≤ maxLen ∧ x.Zd.length * 448 ≤ reachBytes ∧ ∀ y ∈ x.Zd, ZcZ y)
end Nv
