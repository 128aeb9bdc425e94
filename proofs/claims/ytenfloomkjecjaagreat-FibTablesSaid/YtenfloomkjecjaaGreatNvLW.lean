/- What comes in has lengths within bounds. -/
import Derived.Test.YtenfloomkjecjaaGreatNvT1
import Derived.Test.YtenfloomkjecjaaGreatNvV1
namespace Nv
open Go
theorem ZfG {x:ZA} (h:Zar x):YB x:=⟨(h.1),(h.2.2.2.2.2.2.2.2.2.1),(h.2.2.2.2.2.2.2.2.2.2.1)⟩
theorem ZeZ {x:Z1} (h:Ry x):Y1 x:=⟨(h.1),(h.2).1⟩
theorem Zie {x:Zb7} (h:ZeN x):Gq x:=(h.2.1)
theorem ZgQ {x:Yt} (h:ZbH x):JP x:=⟨(h.1),⟨(h.2).1,fun y hy=>Zie ((h.2).2.2 y hy)⟩⟩
theorem Zlp {x:U6} (h:ZjY x):Gi x:=⟨(h.1),(h.2).1⟩
theorem Zen {x:QF} (h:K9 x):VW x:=(h.2.2.2.2.2.2.1)
theorem Zeo {x:X8} (h:Ra x):VX x:=(h.2.2.1)
theorem ZaD {x:QB} (h:R6 x):VY x:=(h.2.2.2.1)
theorem ZfH {x:WB} (h:Zat x):J7 x:=⟨(h.2.2.1).1,⟨(h.2.2.2).1,fun y hy=>ZaD ((h.2.2.2).2.2 y hy)⟩⟩
theorem ZbT {x:Qi} (h:Kc x):Yq x:=⟨(h.2.2.1),(h.2.2.2.1),⟨(h.2.2.2.2).1,fun y hy=>ZaD ((h.2.2.2.2).2.2 y hy)⟩⟩
theorem ZgR {x:VB} (h:ZbJ x):VH x:=⟨(h.2.2.1),(h.2.2.2)⟩
theorem Ze0 {x:XO} (h:Rz x):Xr x:=⟨⟨(h.2.2.2.1).1,fun y hy=>ZgR ((h.2.2.2.1).2.2 y hy)⟩,(h.2.2.2.2.1).1,(h.2.2.2.2.2.1).1,(h.2.2.2.2.2.2.1).1,⟨(h.2.2.2.2.2.2.2).1,fun y hy=>ZaD ((h.2.2.2.2.2.2.2).2.2 y hy)⟩⟩
theorem Zif {x:Zi} (h:ZeO x):Zr x:=⟨(h.1),⟨(h.2.2.1).1,fun y hy=>ZfG ((h.2.2.1).2.2 y hy)⟩,⟨(h.2.2.2.1).1,fun y hy=>ZeZ ((h.2.2.2.1).2.2 y hy)⟩,⟨(h.2.2.2.2.1).1,fun y hy=>ZgQ ((h.2.2.2.2.1).2.2 y hy)⟩,⟨(h.2.2.2.2.2.1).1,fun y hy=>Zlp ((h.2.2.2.2.2.1).2.2 y hy)⟩,⟨(h.2.2.2.2.2.2.1).1,fun y hy=>Zen ((h.2.2.2.2.2.2.1).2.2 y hy)⟩,⟨(h.2.2.2.2.2.2.2.1).1,fun y hy=>Zeo ((h.2.2.2.2.2.2.2.1).2.2 y hy)⟩,ZfH (h.2.2.2.2.2.2.2.2.1),ZbT (h.2.2.2.2.2.2.2.2.2.1),Ze0 (h.2.2.2.2.2.2.2.2.2.2)⟩
theorem Zhf {x:ZI} (h:Zdb x):YY x:=⟨(h).1,fun y hy=>Zif ((h).2.2 y hy)⟩
theorem Zji {x:ZM} (h:ZgL x):QX x:=⟨(h.2.2.2.2.2.2.2.2.1).1,(h.2.2.2.2.2.2.2.2.2.2.2.1).1⟩
end Nv
