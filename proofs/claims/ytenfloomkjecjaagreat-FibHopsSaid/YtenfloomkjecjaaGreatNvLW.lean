/- What comes in has lengths within bounds. -/
import Derived.Test.YtenfloomkjecjaaGreatNvT1
import Derived.Test.YtenfloomkjecjaaGreatNvV1
namespace Nv
open Go
theorem ZeV {x : ZA} (h : RR x) : Yt x := ⟨(h.1),(h.2.2.2.2.2.2.2.2.2.1),(h.2.2.2.2.2.2.2.2.2.2.1)⟩
theorem Zeh {x : ZW} (h : K6 x) : YT x := ⟨(h.1),(h.2).1⟩
theorem Zhs {x : Zbu} (h : Zd5 x) : U9 x := (h.2.1)
theorem Zf5 {x : Yl} (h : Za2 x) : JE x := ⟨(h.1),⟨(h.2).1,fun y hy => Zhs ((h.2).2.2 y hy)⟩⟩
theorem Zkq {x : US} (h : Zi3 x) : U3 x := ⟨(h.1),(h.2).1⟩
theorem ZdD {x : Qx} (h : KF x) : VP x := (h.2.2.2.2.2.2.1)
theorem ZdE {x : X2} (h : KG x) : VQ x := (h.2.2.1)
theorem R5 {x : Qt} (h : Rx x) : VS x := (h.2.2.2.1)
theorem ZeW {x : Wo} (h : RU x) : JW x := ⟨(h.2.2.1).1,⟨(h.2.2.2).1,fun y hy => R5 ((h.2.2.2).2.2 y hy)⟩⟩
theorem Zbe {x : Y9} (h : GQ x) : Yh x := ⟨(h.2.2.1),(h.2.2.2.1),⟨(h.2.2.2.2).1,fun y hy => R5 ((h.2.2.2.2).2.2 y hy)⟩⟩
theorem Zf6 {x : Vq} (h : Za4 x) : Vw x := ⟨(h.2.2.1),(h.2.2.2)⟩
theorem Zei {x : XI} (h : K7 x) : Xp x := ⟨⟨(h.2.2.2.1).1,fun y hy => Zf6 ((h.2.2.2.1).2.2 y hy)⟩,(h.2.2.2.2.1).1,(h.2.2.2.2.2.1).1,(h.2.2.2.2.2.2.1).1,⟨(h.2.2.2.2.2.2.2).1,fun y hy => R5 ((h.2.2.2.2.2.2.2).2.2 y hy)⟩⟩
theorem Zht {x : Zh} (h : Zd6 x) : Zr x := ⟨(h.1),⟨(h.2.2.1).1,fun y hy => ZeV ((h.2.2.1).2.2 y hy)⟩,⟨(h.2.2.2.1).1,fun y hy => Zeh ((h.2.2.2.1).2.2 y hy)⟩,⟨(h.2.2.2.2.1).1,fun y hy => Zf5 ((h.2.2.2.2.1).2.2 y hy)⟩,⟨(h.2.2.2.2.2.1).1,fun y hy => Zkq ((h.2.2.2.2.2.1).2.2 y hy)⟩,⟨(h.2.2.2.2.2.2.1).1,fun y hy => ZdD ((h.2.2.2.2.2.2.1).2.2 y hy)⟩,⟨(h.2.2.2.2.2.2.2.1).1,fun y hy => ZdE ((h.2.2.2.2.2.2.2.1).2.2 y hy)⟩,ZeW (h.2.2.2.2.2.2.2.2.1),Zbe (h.2.2.2.2.2.2.2.2.2.1),Zei (h.2.2.2.2.2.2.2.2.2.2)⟩
theorem Zgt {x : ZG} (h : Zcu x) : YP x := ⟨(h).1,fun y hy => Zht ((h).2.2 y hy)⟩
theorem Ziq {x : Z3} (h : Zf0 x) : QS x := ⟨(h.2.2.2.2.2.2.2.2.1).1,(h.2.2.2.2.2.2.2.2.2.2.2.1).1⟩
end Nv
