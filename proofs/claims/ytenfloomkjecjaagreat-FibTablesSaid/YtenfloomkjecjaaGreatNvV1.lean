/- Data that can come in: the integers fit their kinds, the lengths an int. -/
import Derived.Test.YtenfloomkjecjaaGreatNvD1
import Derived.Test.YtenfloomkjecjaaGreatNvLibB
namespace Nv
open Go
def Zar (x:ZA):Prop:=x.XG.size≤maxLen∧(Lit.int .u32 x.Zm).wf=true∧(Lit.int .i64 x.ZE).wf=true∧(Lit.int .i64 x.XN).wf=true∧True∧True∧(Lit.int .i64 x.WS).wf=true∧(Lit.int .i64 x.ZdL).wf=true∧True∧x.WH.size≤maxLen∧x.Qz.size≤maxLen∧(Lit.int .i64 x.Zbj).wf=true
def Gp (x:ZL):Prop:=(Lit.int .u32 x.Zm).wf=true∧(Lit.int .i64 x.ZE).wf=true
def ZcE (x:Gc):Prop:=True∧Gp x.Zh∧(Lit.int .i64 x.Zk7).wf=true∧(Lit.int .i64 x.Zk8).wf=true
def Ry (x:Z1):Prop:=x.XG.size≤maxLen∧(x.Y7.length≤maxLen∧x.Y7.length*40≤reachBytes∧∀ y∈x.Y7,ZcE y)
def ZeN (x:Zb7):Prop:=True∧x.VO.size≤maxLen∧(Lit.int .i64 x.UP).wf=true∧(Lit.int .i64 x.K3).wf=true∧(Lit.int .i64 x.ZdN).wf=true∧(Lit.int .i64 x.Zbk).wf=true∧(Lit.int .i64 x.Zbl).wf=true
def ZbH (x:Yt):Prop:=x.XG.size≤maxLen∧(x.Ya.length≤maxLen∧x.Ya.length*64≤reachBytes∧∀ y∈x.Ya,ZeN y)
def ZbI (x:Zb8):Prop:=(Lit.int .u32 x.Zm).wf=true∧(Lit.int .u32 x.KM).wf=true
def Zas (x:WA):Prop:=(Lit.int .i64 x.RJ).wf=true∧(Lit.int .i64 x.fHi).wf=true
def ZkC (x:Zgu):Prop:=True∧(Lit.int .i64 x.XR).wf=true∧ZbI x.ZcX∧ZbI x.ZcY∧Zas x.Gj∧Zas x.Gk
def ZjY (x:U6):Prop:=x.XG.size≤maxLen∧(x.Y7.length≤maxLen∧x.Y7.length*64≤reachBytes∧∀ y∈x.Y7,ZkC y)
def K9 (x:QF):Prop:=(Lit.int .i64 x.Up).wf=true∧(Lit.int .u32 x.Vi).wf=true∧(Lit.int .u32 x.Q3).wf=true∧(Lit.int .i64 x.XR).wf=true∧(Lit.int .i64 x.VA).wf=true∧(Lit.int .i64 x.JY).wf=true∧x.VO.size≤maxLen∧(Lit.int .u32 x.RJ).wf=true∧(Lit.int .u32 x.fHi).wf=true
def Ra (x:X8):Prop:=Gp x.Zh∧(Lit.int .u32 x.YF).wf=true∧x.ZP.size≤maxLen∧True∧(Lit.int .i64 x.Z5).wf=true∧(Lit.int .i64 x.UP).wf=true
def Zd9 (x:V9):Prop:=(Lit.int .i64 x.WS).wf=true∧Gp x.Zh
def R6 (x:QB):Prop:=(Lit.int .i64 x.W3).wf=true∧(Lit.int .i64 x.Qk).wf=true∧(Lit.int .i64 x.UP).wf=true∧x.Zex.size≤maxLen∧(Lit.int .i64 x.Ze8).wf=true
def Zat (x:WB):Prop:=True∧(Lit.int .i64 x.Z5).wf=true∧(x.Z6.length≤maxLen∧x.Z6.length*24≤reachBytes∧∀ y∈x.Z6,Zd9 y)∧(x.Zu.length≤maxLen∧x.Zu.length*48≤reachBytes∧∀ y∈x.Zu,R6 y)
def Kc (x:Qi):Prop:=True∧(Lit.int .i64 x.Z5).wf=true∧x.WH.size≤maxLen∧x.Qz.size≤maxLen∧(x.Zu.length≤maxLen∧x.Zu.length*48≤reachBytes∧∀ y∈x.Zu,R6 y)
def ZbJ (x:VB):Prop:=(Lit.int .u32 x.Zm).wf=true∧(Lit.int .i64 x.KQ).wf=true∧x.WH.size≤maxLen∧x.Qz.size≤maxLen
def Zea (x:Wa):Prop:=Gp x.Zh∧True
def Zeb (x:Wb):Prop:=Gp x.Zh∧Gp x.fIf∧True
def Rz (x:XO):Prop:=True∧(Lit.int .i64 x.X6).wf=true∧(Lit.int .i64 x.X7).wf=true∧(x.Zp.length≤maxLen∧x.Zp.length*48≤reachBytes∧∀ y∈x.Zp,ZbJ y)∧(x.ZY.length≤maxLen∧x.ZY.length*16≤reachBytes∧∀ y∈x.ZY,Gp y)∧(x.ZG.length≤maxLen∧x.ZG.length*24≤reachBytes∧∀ y∈x.ZG,Zea y)∧(x.Zv.length≤maxLen∧x.Zv.length*40≤reachBytes∧∀ y∈x.Zv,Zeb y)∧(x.Zu.length≤maxLen∧x.Zu.length*48≤reachBytes∧∀ y∈x.Zu,R6 y)
def ZeO (x:Zi):Prop:=x.XG.size≤maxLen∧(Lit.int .i64 x.KQ).wf=true∧(x.Zc.length≤maxLen∧x.Zc.length*112≤reachBytes∧∀ y∈x.Zc,Zar y)∧(x.YV.length≤maxLen∧x.YV.length*40≤reachBytes∧∀ y∈x.YV,Ry y)∧(x.XP.length≤maxLen∧x.XP.length*40≤reachBytes∧∀ y∈x.XP,ZbH y)∧(x.Y5.length≤maxLen∧x.Y5.length*40≤reachBytes∧∀ y∈x.Y5,ZjY y)∧(x.Xf.length≤maxLen∧x.Xf.length*64≤reachBytes∧∀ y∈x.Xf,K9 y)∧(x.Zq.length≤maxLen∧x.Zq.length*64≤reachBytes∧∀ y∈x.Zq,Ra y)∧Zat x.YC∧Kc x.YK∧Rz x.Xz
def Zdb (x:ZI):Prop:=(x.Ze.length≤maxLen∧x.Ze.length*448≤reachBytes∧∀ y∈x.Ze,ZeO y)
def ZmJ (x:ZF):Prop:=(Lit.int .i64 x.ZP).wf=true∧(Lit.int .u32 x.Zm).wf=true
def ZgL (x:ZM):Prop:=Gp x.Zh∧(Lit.int .i64 x.XR).wf=true∧(Lit.int .i64 x.Yj).wf=true∧(Lit.int .i64 x.Z5).wf=true∧(Lit.int .i64 x.Qk).wf=true∧(Lit.int .i64 x.Zag).wf=true∧(Lit.int .i64 x.UP).wf=true∧(Lit.int .i64 x.Zgv).wf=true∧(x.Ua.length≤maxLen∧x.Ua.length*8≤reachBytes∧∀ y∈x.Ua,(Lit.int .i64 y).wf=true)∧(Lit.int .u32 x.W3).wf=true∧(Lit.int .u32 x.YF).wf=true∧(x.ZQ.length≤maxLen∧x.ZQ.length*16≤reachBytes∧∀ y∈x.ZQ,ZmJ y)∧True
end Nv
