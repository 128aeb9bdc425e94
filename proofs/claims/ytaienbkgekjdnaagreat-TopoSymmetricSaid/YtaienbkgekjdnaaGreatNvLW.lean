/- What comes in has lengths within bounds. -/
import Derived.Test.YtaienbkgekjdnaaGreatNvT1
import Derived.Test.YtaienbkgekjdnaaGreatNvV1
namespace Nv
open Go
theorem Zde {x : Zl} (h : KD x) : Ye x := ⟨(h.1), (h.2.2.2.2.2.2.2.2.2.1), (h.2.2.2.2.2.2.2.2.2.2.1)⟩
theorem ZcF {x : Z2} (h : GX x) : Yz x := ⟨(h.1), (h.2).1⟩
theorem ZfA {x : R7} (h : Zcv x) : Uh x := (h.2.1)
theorem Zek {x : X6} (h : RI x) : Q9 x := ⟨(h.1), ⟨(h.2).1, fun y hy => ZfA ((h.2).2.2 y hy)⟩⟩
theorem Zik {x : WW} (h : Zg5 x) : Uc x := ⟨(h.1), (h.2).1⟩
theorem Zb7 {x : YS} (h : Gu x) : Va x := (h.2.2.2.2.2.2.1)
theorem Zb8 {x : YT} (h : Gv x) : Vb x := (h.2.2.1)
theorem KO {x : YJ} (h : Km x) : Vc x := (h.2.2.2.1)
theorem Zdf {x : Vg} (h : KF x) : Jp x := ⟨(h.2.2.1).1, ⟨(h.2.2.2).1, fun y hy => KO ((h.2.2.2).2.2 y hy)⟩⟩
theorem RT {x : YB} (h : UM x) : X5 x := ⟨(h.2.2.1), (h.2.2.2.1), ⟨(h.2.2.2.2).1, fun y hy => KO ((h.2.2.2.2).2.2 y hy)⟩⟩
theorem Zel {x : Ju} (h : RK x) : JU x := ⟨(h.2.2.1), (h.2.2.2)⟩
theorem ZcG {x : Xw} (h : GY x) : Xk x := ⟨⟨(h.2.2.2.1).1, fun y hy => Zel ((h.2.2.2.1).2.2 y hy)⟩, (h.2.2.2.2.1).1, (h.2.2.2.2.2.1).1, (h.2.2.2.2.2.2.1).1, ⟨(h.2.2.2.2.2.2.2).1, fun y hy => KO ((h.2.2.2.2.2.2.2).2.2 y hy)⟩⟩
theorem ZfB {x : Zf} (h : Zcw x) : Zn x := ⟨(h.1), ⟨(h.2.2.1).1, fun y hy => Zde ((h.2.2.1).2.2 y hy)⟩, ⟨(h.2.2.2.1).1, fun y hy => ZcF ((h.2.2.2.1).2.2 y hy)⟩, ⟨(h.2.2.2.2.1).1, fun y hy => Zek ((h.2.2.2.2.1).2.2 y hy)⟩, ⟨(h.2.2.2.2.2.1).1, fun y hy => Zik ((h.2.2.2.2.2.1).2.2 y hy)⟩, ⟨(h.2.2.2.2.2.2.1).1, fun y hy => Zb7 ((h.2.2.2.2.2.2.1).2.2 y hy)⟩, ⟨(h.2.2.2.2.2.2.2.1).1, fun y hy => Zb8 ((h.2.2.2.2.2.2.2.1).2.2 y hy)⟩, Zdf (h.2.2.2.2.2.2.2.2.1), RT (h.2.2.2.2.2.2.2.2.2.1), ZcG (h.2.2.2.2.2.2.2.2.2.2)⟩
theorem ZeB {x : Zw} (h : Za1 x) : Yv x := ⟨(h).1, fun y hy => ZfB ((h).2.2 y hy)⟩
end Nv
