/- What comes in has lengths within bounds. -/
import Derived.Test.YtaienbkgekjdnaaGreatNvT1
import Derived.Test.YtaienbkgekjdnaaGreatNvV1
namespace Nv
open Go
theorem Zde {x : Zl} (h : KC x) : Ye x := ⟨(h.1), (h.2.2.2.2.2.2.2.2.2.1), (h.2.2.2.2.2.2.2.2.2.2.1)⟩
theorem ZcF {x : Z2} (h : GW x) : Yz x := ⟨(h.1), (h.2).1⟩
theorem Zfz {x : R6} (h : Zcv x) : Ug x := (h.2.1)
theorem Zej {x : X6} (h : RH x) : Q8 x := ⟨(h.1), ⟨(h.2).1, fun y hy => Zfz ((h.2).2.2 y hy)⟩⟩
theorem Zij {x : WV} (h : Zg4 x) : Ub x := ⟨(h.1), (h.2).1⟩
theorem Zb7 {x : YR} (h : Gt x) : J9 x := (h.2.2.2.2.2.2.1)
theorem Zb8 {x : YS} (h : Gu x) : Va x := (h.2.2.1)
theorem KN {x : YJ} (h : Kl x) : Vb x := (h.2.2.2.1)
theorem Zdf {x : Vf} (h : KE x) : Jo x := ⟨(h.2.2.1).1, ⟨(h.2.2.2).1, fun y hy => KN ((h.2.2.2).2.2 y hy)⟩⟩
theorem RR {x : YB} (h : UL x) : X5 x := ⟨(h.2.2.1), (h.2.2.2.1), ⟨(h.2.2.2.2).1, fun y hy => KN ((h.2.2.2.2).2.2 y hy)⟩⟩
theorem Zek {x : Jt} (h : RJ x) : JT x := ⟨(h.2.2.1), (h.2.2.2)⟩
theorem ZcG {x : Xw} (h : GX x) : Xk x := ⟨⟨(h.2.2.2.1).1, fun y hy => Zek ((h.2.2.2.1).2.2 y hy)⟩, (h.2.2.2.2.1).1, (h.2.2.2.2.2.1).1, (h.2.2.2.2.2.2.1).1, ⟨(h.2.2.2.2.2.2.2).1, fun y hy => KN ((h.2.2.2.2.2.2.2).2.2 y hy)⟩⟩
theorem ZfA {x : Zf} (h : Zcw x) : Zn x := ⟨(h.1), ⟨(h.2.2.1).1, fun y hy => Zde ((h.2.2.1).2.2 y hy)⟩, ⟨(h.2.2.2.1).1, fun y hy => ZcF ((h.2.2.2.1).2.2 y hy)⟩, ⟨(h.2.2.2.2.1).1, fun y hy => Zej ((h.2.2.2.2.1).2.2 y hy)⟩, ⟨(h.2.2.2.2.2.1).1, fun y hy => Zij ((h.2.2.2.2.2.1).2.2 y hy)⟩, ⟨(h.2.2.2.2.2.2.1).1, fun y hy => Zb7 ((h.2.2.2.2.2.2.1).2.2 y hy)⟩, ⟨(h.2.2.2.2.2.2.2.1).1, fun y hy => Zb8 ((h.2.2.2.2.2.2.2.1).2.2 y hy)⟩, Zdf (h.2.2.2.2.2.2.2.2.1), RR (h.2.2.2.2.2.2.2.2.2.1), ZcG (h.2.2.2.2.2.2.2.2.2.2)⟩
theorem ZeA {x : Zw} (h : Za0 x) : Yv x := ⟨(h).1, fun y hy => ZfA ((h).2.2 y hy)⟩
end Nv
