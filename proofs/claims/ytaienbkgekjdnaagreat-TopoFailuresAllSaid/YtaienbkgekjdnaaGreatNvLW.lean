/- What comes in has lengths within bounds. -/
import Derived.Test.YtaienbkgekjdnaaGreatNvT1
import Derived.Test.YtaienbkgekjdnaaGreatNvV1
namespace Nv
open Go
theorem Zfe {x:Zx} (h:ZaG x):Xp x:=⟨(h.1),(h.2.2.2.2.2.2.2.2.2.1),(h.2.2.2.2.2.2.2.2.2.2.1)⟩
theorem ZeH {x:ZD} (h:RT x):X7 x:=⟨(h.1),(h.2).1⟩
theorem ZhD {x:Ub} (h:Zew x):WX x:=(h.2.1)
theorem Zgi {x:Xw} (h:ZbQ x):Ym x:=⟨(h.1),⟨(h.2).1,fun y hy=>ZhD ((h.2).2.2 y hy)⟩⟩
theorem Zko {x:V2} (h:Zja x):Wz x:=⟨(h.1),(h.2).1⟩
theorem Zeb {x:YX} (h:Rb x):JD x:=(h.2.2.2.2.2.2.1)
theorem Zec {x:Yh} (h:Rc x):Ji x:=(h.2.2.1)
theorem ZaZ {x:YB} (h:Zaj x):J3 x:=(h.2.2.2.1)
theorem Zff {x:Wv} (h:ZaI x):Jr x:=⟨(h.2.2.1).1,⟨(h.2.2.2).1,fun y hy=>ZaZ ((h.2.2.2).2.2 y hy)⟩⟩
theorem Zb8 {x:QA} (h:Ki x):Yf x:=⟨(h.2.2.1),(h.2.2.2.1),⟨(h.2.2.2.2).1,fun y hy=>ZaZ ((h.2.2.2.2).2.2 y hy)⟩⟩
theorem Zgj {x:VH} (h:ZbS x):JL x:=⟨(h.2.2.1),(h.2.2.2)⟩
theorem ZeI {x:Xb} (h:RU x):Z5 x:=⟨⟨(h.2.2.2.1).1,fun y hy=>Zgj ((h.2.2.2.1).2.2 y hy)⟩,(h.2.2.2.2.1).1,(h.2.2.2.2.2.1).1,(h.2.2.2.2.2.2.1).1,⟨(h.2.2.2.2.2.2.2).1,fun y hy=>ZaZ ((h.2.2.2.2.2.2.2).2.2 y hy)⟩⟩
theorem ZhE {x:Zf} (h:Zcm x):Zi x:=⟨(h.1),⟨(h.2.2.1).1,fun y hy=>Zfe ((h.2.2.1).2.2 y hy)⟩,⟨(h.2.2.2.1).1,fun y hy=>ZeH ((h.2.2.2.1).2.2 y hy)⟩,⟨(h.2.2.2.2.1).1,fun y hy=>Zgi ((h.2.2.2.2.1).2.2 y hy)⟩,⟨(h.2.2.2.2.2.1).1,fun y hy=>Zko ((h.2.2.2.2.2.1).2.2 y hy)⟩,⟨(h.2.2.2.2.2.2.1).1,fun y hy=>Zeb ((h.2.2.2.2.2.2.1).2.2 y hy)⟩,⟨(h.2.2.2.2.2.2.2.1).1,fun y hy=>Zec ((h.2.2.2.2.2.2.2.1).2.2 y hy)⟩,Zff (h.2.2.2.2.2.2.2.2.1),Zb8 (h.2.2.2.2.2.2.2.2.2.1),ZeI (h.2.2.2.2.2.2.2.2.2.2)⟩
theorem ZgB {x:ZP} (h:Rd x):Yy x:=⟨(h).1,fun y hy=>ZhE ((h).2.2 y hy)⟩
end Nv
