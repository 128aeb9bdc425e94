/- Data that can come in: the integers fit their kinds, the lengths an int. -/
import Derived.Test.YtaienbkgekjdnaaGreatNvD1
import Derived.Test.YtaienbkgekjdnaaGreatNvLibB
namespace Nv
open Go
def KR (x : Zl) : Prop := x.Xm.size ≤ maxLen ∧ (Lit.int .u32 x.Zx).wf = true ∧ (Lit.int .i64 x.ZV).wf = true ∧ (Lit.int .i64 x.XE).wf = true ∧ True ∧ True ∧ (Lit.int .i64 x.V0).wf = true ∧ (Lit.int .i64 x.ZbN).wf = true ∧ True ∧ x.VQ.size ≤ maxLen ∧ x.Qa.size ≤ maxLen ∧ (Lit.int .i64 x.RA).wf = true
def UE (x : ZZ) : Prop := (Lit.int .u32 x.Zx).wf = true ∧ (Lit.int .i64 x.ZV).wf = true
def ZaQ (x : Ue) : Prop := True ∧ UE x.Zo ∧ (Lit.int .i64 x.Zii).wf = true ∧ (Lit.int .i64 x.Zij).wf = true
def Kf (x : Z2) : Prop := x.Xm.size ≤ maxLen ∧ (x.YH.length ≤ maxLen ∧ x.YH.length * 40 ≤ reachBytes ∧ ∀ y ∈ x.YH, ZaQ y)
def ZcM (x : Zam) : Prop := True ∧ x.J3.size ≤ maxLen ∧ (Lit.int .i64 x.KI).wf = true ∧ (Lit.int .i64 x.GC).wf = true ∧ (Lit.int .i64 x.ZbP).wf = true ∧ (Lit.int .i64 x.RB).wf = true ∧ (Lit.int .i64 x.RC).wf = true
def RZ (x : Ya) : Prop := x.Xm.size ≤ maxLen ∧ (x.X1.length ≤ maxLen ∧ x.X1.length * 64 ≤ reachBytes ∧ ∀ y ∈ x.X1, ZcM y)
def R0 (x : Zan) : Prop := (Lit.int .u32 x.Zx).wf = true ∧ (Lit.int .u32 x.Gq).wf = true
def KS (x : VI) : Prop := (Lit.int .i64 x.Kq).wf = true ∧ (Lit.int .i64 x.K7).wf = true
def ZhM (x : Zen) : Prop := True ∧ (Lit.int .i64 x.YS).wf = true ∧ R0 x.Za3 ∧ R0 x.Za4 ∧ KS x.Uk ∧ KS x.Ul
def Zhi (x : W3) : Prop := x.Xm.size ≤ maxLen ∧ (x.YH.length ≤ maxLen ∧ x.YH.length * 64 ≤ reachBytes ∧ ∀ y ∈ x.YH, ZhM y)
def GM (x : YT) : Prop := (Lit.int .i64 x.Wr).wf = true ∧ (Lit.int .u32 x.JD).wf = true ∧ (Lit.int .u32 x.QC).wf = true ∧ (Lit.int .i64 x.YS).wf = true ∧ (Lit.int .i64 x.JT).wf = true ∧ (Lit.int .i64 x.Jh).wf = true ∧ x.J3.size ≤ maxLen ∧ (Lit.int .u32 x.Kq).wf = true ∧ (Lit.int .u32 x.K7).wf = true
def GN (x : YU) : Prop := UE x.Zo ∧ (Lit.int .u32 x.UR).wf = true ∧ x.XY.size ≤ maxLen ∧ True ∧ (Lit.int .i64 x.Xr).wf = true ∧ (Lit.int .i64 x.KI).wf = true
def Zcb (x : J4) : Prop := (Lit.int .i64 x.V0).wf = true ∧ UE x.Zo
def KD (x : YK) : Prop := (Lit.int .i64 x.GD).wf = true ∧ (Lit.int .i64 x.ZbQ).wf = true ∧ (Lit.int .i64 x.KI).wf = true ∧ x.ZcA.size ≤ maxLen ∧ (Lit.int .i64 x.Zc4).wf = true
def KT (x : Vj) : Prop := True ∧ (Lit.int .i64 x.Xr).wf = true ∧ (x.Z6.length ≤ maxLen ∧ x.Z6.length * 24 ≤ reachBytes ∧ ∀ y ∈ x.Z6, Zcb y) ∧ (x.Zs.length ≤ maxLen ∧ x.Zs.length * 48 ≤ reachBytes ∧ ∀ y ∈ x.Zs, KD y)
def UX (x : YE) : Prop := True ∧ (Lit.int .i64 x.Xr).wf = true ∧ x.VQ.size ≤ maxLen ∧ x.Qa.size ≤ maxLen ∧ (x.Zs.length ≤ maxLen ∧ x.Zs.length * 48 ≤ reachBytes ∧ ∀ y ∈ x.Zs, KD y)
def R1 (x : Jv) : Prop := (Lit.int .u32 x.Zx).wf = true ∧ (Lit.int .i64 x.Gt).wf = true ∧ x.VQ.size ≤ maxLen ∧ x.Qa.size ≤ maxLen
def Zcc (x : J5) : Prop := UE x.Zo ∧ True
def Zcd (x : J6) : Prop := UE x.Zo ∧ UE x.fIf ∧ True
def Kg (x : Xy) : Prop := True ∧ (Lit.int .i64 x.XZ).wf = true ∧ (Lit.int .i64 x.X0).wf = true ∧ (x.Zm.length ≤ maxLen ∧ x.Zm.length * 48 ≤ reachBytes ∧ ∀ y ∈ x.Zm, R1 y) ∧ (x.Z1.length ≤ maxLen ∧ x.Z1.length * 16 ≤ reachBytes ∧ ∀ y ∈ x.Z1, UE y) ∧ (x.ZE.length ≤ maxLen ∧ x.ZE.length * 24 ≤ reachBytes ∧ ∀ y ∈ x.ZE, Zcc y) ∧ (x.Zt.length ≤ maxLen ∧ x.Zt.length * 40 ≤ reachBytes ∧ ∀ y ∈ x.Zt, Zcd y) ∧ (x.Zs.length ≤ maxLen ∧ x.Zs.length * 48 ≤ reachBytes ∧ ∀ y ∈ x.Zs, KD y)
def ZcN (x : Zf) : Prop := x.Xm.size ≤ maxLen ∧ (Lit.int .i64 x.Gt).wf = true ∧ (x.Zc.length ≤ maxLen ∧ x.Zc.length * 112 ≤ reachBytes ∧ ∀ y ∈ x.Zc, KR y) ∧ (x.Yw.length ≤ maxLen ∧ x.Yw.length * 40 ≤ reachBytes ∧ ∀ y ∈ x.Yw, Kf y) ∧ (x.XF.length ≤ maxLen ∧ x.XF.length * 40 ≤ reachBytes ∧ ∀ y ∈ x.XF, RZ y) ∧ (x.YF.length ≤ maxLen ∧ x.YF.length * 40 ≤ reachBytes ∧ ∀ y ∈ x.YF, Zhi y) ∧ (x.Xc.length ≤ maxLen ∧ x.Xc.length * 64 ≤ reachBytes ∧ ∀ y ∈ x.Xc, GM y) ∧ (x.Zr.length ≤ maxLen ∧ x.Zr.length * 64 ≤ reachBytes ∧ ∀ y ∈ x.Zr, GN y) ∧ KT x.Yh ∧ UX x.Yo ∧ Kg x.Xs
def Zbf (x : ZB) : Prop := (x.Zd.length ≤ maxLen ∧ x.Zd.length * 448 ≤ reachBytes ∧ ∀ y ∈ x.Zd, ZcN y)
end Nv
