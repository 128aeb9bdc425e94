/- Data that can come in: the integers fit their kinds, the lengths an int. -/
import Derived.Test.YtaienbkgekjdnaaGreatNvD1
import Derived.Test.YtaienbkgekjdnaaGreatNvLibB
namespace Nv
open Go
def ZaG (x:Zx):Prop:=x.ZH.size≤maxLen∧(Lit.int .u32 x.ZA).wf=true∧(Lit.int .i64 x.ZM).wf=true∧(Lit.int .i64 x.XI).wf=true∧True∧True∧(Lit.int .i64 x.Vb).wf=true∧(Lit.int .i64 x.RC).wf=true∧True∧x.VE.size≤maxLen∧x.YH.size≤maxLen∧(Lit.int .i64 x.R6).wf=true
def GY (x:ZO):Prop:=(Lit.int .u32 x.ZA).wf=true∧(Lit.int .i64 x.ZM).wf=true
def ZcT (x:Vy):Prop:=True∧GY x.Zp∧(Lit.int .i64 x.Zcp).wf=true∧(Lit.int .i64 x.Zcq).wf=true
def RT (x:ZD):Prop:=x.ZH.size≤maxLen∧(x.Xv.length≤maxLen∧x.Xv.length*40≤reachBytes∧∀ y∈x.Xv,ZcT y)
def Zew (x:Ub):Prop:=True∧x.QX.size≤maxLen∧(Lit.int .i64 x.Gd).wf=true∧(Lit.int .i64 x.W1).wf=true∧(Lit.int .i64 x.G9).wf=true∧(Lit.int .i64 x.Gl).wf=true∧(Lit.int .i64 x.Gm).wf=true
def ZbQ (x:Xw):Prop:=x.ZH.size≤maxLen∧(x.Xj.length≤maxLen∧x.Xj.length*64≤reachBytes∧∀ y∈x.Xj,Zew y)
def ZbR (x:Zck):Prop:=(Lit.int .u32 x.ZA).wf=true∧(Lit.int .u32 x.GA).wf=true
def ZaH (x:Vc):Prop:=(Lit.int .i64 x.GB).wf=true∧(Lit.int .i64 x.Ka).wf=true
def ZjE (x:Kb):Prop:=True∧(Lit.int .i64 x.Yg).wf=true∧ZbR x.RM∧ZbR x.RN∧ZaH x.VF∧ZaH x.VG
def Zja (x:V2):Prop:=x.ZH.size≤maxLen∧(x.Xv.length≤maxLen∧x.Xv.length*64≤reachBytes∧∀ y∈x.Xv,ZjE y)
def Rb (x:YX):Prop:=(Lit.int .i64 x.J5).wf=true∧(Lit.int .u32 x.Qm).wf=true∧(Lit.int .u32 x.YA).wf=true∧(Lit.int .i64 x.Yg).wf=true∧(Lit.int .i64 x.QR).wf=true∧(Lit.int .i64 x.Qh).wf=true∧x.QX.size≤maxLen∧(Lit.int .u32 x.GB).wf=true∧(Lit.int .u32 x.Ka).wf=true
def Rc (x:Yh):Prop:=GY x.Zp∧(Lit.int .u32 x.Vu).wf=true∧x.Jj.size≤maxLen∧True∧(Lit.int .i64 x.Xd).wf=true∧(Lit.int .i64 x.Gd).wf=true
def ZdX (x:Wf):Prop:=(Lit.int .i64 x.Vb).wf=true∧GY x.Zp
def Zaj (x:YB):Prop:=(Lit.int .i64 x.WU).wf=true∧(Lit.int .i64 x.KP).wf=true∧(Lit.int .i64 x.Gd).wf=true∧x.RO.size≤maxLen∧(Lit.int .i64 x.Kn).wf=true
def ZaI (x:Wv):Prop:=True∧(Lit.int .i64 x.Xd).wf=true∧(x.ZF.length≤maxLen∧x.ZF.length*24≤reachBytes∧∀ y∈x.ZF,ZdX y)∧(x.Zs.length≤maxLen∧x.Zs.length*48≤reachBytes∧∀ y∈x.Zs,Zaj y)
def Ki (x:QA):Prop:=True∧(Lit.int .i64 x.Xd).wf=true∧x.VE.size≤maxLen∧x.YH.size≤maxLen∧(x.Zs.length≤maxLen∧x.Zs.length*48≤reachBytes∧∀ y∈x.Zs,Zaj y)
def ZbS (x:VH):Prop:=(Lit.int .u32 x.ZA).wf=true∧(Lit.int .i64 x.GC).wf=true∧x.VE.size≤maxLen∧x.YH.size≤maxLen
def ZdY (x:Wg):Prop:=GY x.Zp∧True
def ZdZ (x:Wh):Prop:=GY x.Zp∧GY x.fIf∧True
def RU (x:Xb):Prop:=True∧(Lit.int .i64 x.XM).wf=true∧(Lit.int .i64 x.XN).wf=true∧(x.Zl.length≤maxLen∧x.Zl.length*48≤reachBytes∧∀ y∈x.Zl,ZbS y)∧(x.Zt.length≤maxLen∧x.Zt.length*16≤reachBytes∧∀ y∈x.Zt,GY y)∧(x.Zq.length≤maxLen∧x.Zq.length*24≤reachBytes∧∀ y∈x.Zq,ZdY y)∧(x.Zn.length≤maxLen∧x.Zn.length*40≤reachBytes∧∀ y∈x.Zn,ZdZ y)∧(x.Zs.length≤maxLen∧x.Zs.length*48≤reachBytes∧∀ y∈x.Zs,Zaj y)
def Zcm (x:Zf):Prop:=x.ZH.size≤maxLen∧(Lit.int .i64 x.GC).wf=true∧(x.Zc.length≤maxLen∧x.Zc.length*112≤reachBytes∧∀ y∈x.Zc,ZaG y)∧(x.Xi.length≤maxLen∧x.Xi.length*40≤reachBytes∧∀ y∈x.Xi,RT y)∧(x.Z9.length≤maxLen∧x.Z9.length*40≤reachBytes∧∀ y∈x.Z9,ZbQ y)∧(x.XK.length≤maxLen∧x.XK.length*40≤reachBytes∧∀ y∈x.XK,Zja y)∧(x.Xf.length≤maxLen∧x.Xf.length*64≤reachBytes∧∀ y∈x.Xf,Rb y)∧(x.Zr.length≤maxLen∧x.Zr.length*64≤reachBytes∧∀ y∈x.Zr,Rc y)∧ZaI x.X5∧Ki x.Ye∧RU x.Z8
def Rd (x:ZP):Prop:=(x.Zd.length≤maxLen∧x.Zd.length*448≤reachBytes∧∀ y∈x.Zd,Zcm y)
end Nv
