/- What comes in has lengths within bounds. -/
import Derived.Test.YtaienbkgekjdnaaGreatNvT1
import Derived.Test.YtaienbkgekjdnaaGreatNvV1
namespace Nv
open Go
theorem Zdy {x : Zl} (h : KR x) : Yg x := ⟨(h.1), (h.2.2.2.2.2.2.2.2.2.1), (h.2.2.2.2.2.2.2.2.2.2.1)⟩
theorem ZcW {x : Z2} (h : Kf x) : YB x := ⟨(h.1), (h.2).1⟩
theorem ZfW {x : Zam} (h : ZcM x) : Un x := (h.2.1)
theorem ZeF {x : Ya} (h : RZ x) : Ja x := ⟨(h.1), ⟨(h.2).1, fun y hy => ZfW ((h.2).2.2 y hy)⟩⟩
theorem Ziy {x : W3} (h : Zhi x) : Uj x := ⟨(h.1), (h.2).1⟩
theorem Zcp {x : YT} (h : GM x) : Vd x := (h.2.2.2.2.2.2.1)
theorem Zcq {x : YU} (h : GN x) : Ve x := (h.2.2.1)
theorem K4 {x : YK} (h : KD x) : Vf x := (h.2.2.2.1)
theorem Zdz {x : Vj} (h : KT x) : Jo x := ⟨(h.2.2.1).1, ⟨(h.2.2.2).1, fun y hy => K4 ((h.2.2.2).2.2 y hy)⟩⟩
theorem R9 {x : YE} (h : UX x) : X6 x := ⟨(h.2.2.1), (h.2.2.2.1), ⟨(h.2.2.2.2).1, fun y hy => K4 ((h.2.2.2.2).2.2 y hy)⟩⟩
theorem ZeG {x : Jv} (h : R1 x) : JX x := ⟨(h.2.2.1), (h.2.2.2)⟩
theorem ZcX {x : Xy} (h : Kg x) : Xl x := ⟨⟨(h.2.2.2.1).1, fun y hy => ZeG ((h.2.2.2.1).2.2 y hy)⟩, (h.2.2.2.2.1).1, (h.2.2.2.2.2.1).1, (h.2.2.2.2.2.2.1).1, ⟨(h.2.2.2.2.2.2.2).1, fun y hy => K4 ((h.2.2.2.2.2.2.2).2.2 y hy)⟩⟩
theorem ZfX {x : Zf} (h : ZcN x) : Zn x := ⟨(h.1), ⟨(h.2.2.1).1, fun y hy => Zdy ((h.2.2.1).2.2 y hy)⟩, ⟨(h.2.2.2.1).1, fun y hy => ZcW ((h.2.2.2.1).2.2 y hy)⟩, ⟨(h.2.2.2.2.1).1, fun y hy => ZeF ((h.2.2.2.2.1).2.2 y hy)⟩, ⟨(h.2.2.2.2.2.1).1, fun y hy => Ziy ((h.2.2.2.2.2.1).2.2 y hy)⟩, ⟨(h.2.2.2.2.2.2.1).1, fun y hy => Zcp ((h.2.2.2.2.2.2.1).2.2 y hy)⟩, ⟨(h.2.2.2.2.2.2.2.1).1, fun y hy => Zcq ((h.2.2.2.2.2.2.2.1).2.2 y hy)⟩, Zdz (h.2.2.2.2.2.2.2.2.1), R9 (h.2.2.2.2.2.2.2.2.2.1), ZcX (h.2.2.2.2.2.2.2.2.2.2)⟩
theorem ZeY {x : ZB} (h : Zbf x) : Yy x := ⟨(h).1, fun y hy => ZfX ((h).2.2 y hy)⟩
end Nv
